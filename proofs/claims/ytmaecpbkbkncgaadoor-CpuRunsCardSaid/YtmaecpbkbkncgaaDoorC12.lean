/-
  Cpu, part 12: CpuWays. Own work.
-/
import Derived.Test.YtmaecpbkbkncgaaDoorC11
set_option linter.unusedVariables false
set_option linter.unusedSimpArgs false
set_option maxRecDepth 100000
namespace Go.Proofs.YtmaecpbkbkncgaaDoor
open Go Go.V Go.RowKit

theorem d25 : decode [25, 15, 1, 0] = some ⟨25, 15, 1, 0, 0⟩ := by kernel_rfl
theorem d26 : decode [26, 0, 0, 0] = some ⟨26, 0, 0, 0, 0⟩ := by kernel_rfl

theorem u8_toN (n : Int) : ((u8 n).toNat : Int) = n % 256 := by
  unfold u8
  rw [u8_of]
  omega

theorem decWay {o : UInt8} {p : Int} (ho : (p = 23 ∧ o = 23) ∨ (p = 24 ∧ o = 24)) {n : Int} (h1 : -32768 ≤ n) (h2 : n < 32768) : decode [o, 2, u8 n, u8 (n / 256)] = some ⟨p, 2, 0, 0, n⟩ := by
  have hp : (o.toNat : Int) = p := by rcases ho with ⟨rfl, rfl⟩ | ⟨rfl, rfl⟩ <;> rfl
  have hn : shNum o.toNat = 3 := by
    rw [hp]
    unfold shNum
    rw [if_neg (by omega), if_neg (by omega), if_neg (by omega), if_neg (by omega), if_neg (by omega), if_pos (by omega)]
  have hd : decC o 2 (u8 n) (u8 (n / 256)) = ⟨p, 2, 0, 0, n⟩ := by
    unfold decC
    rw [if_neg (by omega), if_pos hn, hp, u8_toN, u8_toN]
    have : sx (n % 256 + 256 * (n / 256 % 256)) = n := by unfold sx; split <;> omega
    rw [this]
    rfl
  have hr : rightB ⟨p, 2, 0, 0, n⟩ = true := by
    have h3 : shNum p = 3 := by rw [← hp]; exact hn
    have hR : shRegs p = 1 := by
      unfold shRegs
      rw [if_neg (by omega), if_neg (by omega), if_neg (by omega), if_neg (by omega), if_neg (by omega), if_pos (by omega)]
    unfold rightB
    simp only [h3, hR]
    have hp2 : decide (0 ≤ p ∧ p < 27) = true := decide_eq_true (by omega)
    have hf : fitsN 3 n = true := by
      unfold fitsN
      rw [if_neg (by decide), if_neg (by decide), if_pos rfl]
      exact decide_eq_true ⟨h1, h2⟩
    rw [hp2, hf]
    rfl
  rw [decode4, hd, if_pos hr]

theorem bs42_4 {w : World} {a b c d : UInt8} {K : Value → World → Prop} (hK : ∀ w' v, Bs w' v [a, b, c, d] (some w.heap.size) → Fr (fun _ => False) w w' → w'.heap.size = w.heap.size + 1 → K v w') :
    vBuildSlice Tryd.prog 42 4 [(0, .int .u8 a.toNat), (1, .int .u8 b.toNat), (2, .int .u8 c.toNat), (3, .int .u8 d.toNat)] w K := by
  obtain ⟨i, hi1, hi2, hi3⟩ := i5
  unfold vBuildSlice
  simp only [t38, z5, hi1, hi2]
  refine ⟨by decide, by decide, ?_⟩
  simp only [fillV, slPlace, Nat.blt, Nat.ble, cond_true]
  refine ⟨rfl, rfl, rfl, rfl, ?_⟩
  exact hK _ _ ⟨[], rfl, Cs.new _ [.int .u8 a.toNat, .int .u8 b.toNat, .int .u8 c.toNat, .int .u8 d.toNat] 5⟩ ((Fr.refl _ w).alloc _) (by simp)

theorem do25 (r : List Nat) (l : List UInt8) : doP r l ⟨25, 15, 1, 0, 0⟩ = (goP (putP r 15 (nextP r)) (rg r 1), l, 0) := rfl
theorem do26 (r : List Nat) (l : List UInt8) : doP r l ⟨26, 0, 0, 0, 0⟩ = (goP r (rg r 15), l, 0) := rfl
theorem doWay (r : List Nat) (l : List UInt8) {p n : Int} (hp : p = 23 ∨ p = 24) : doP r l ⟨p, 2, 0, 0, n⟩ = (goP r (if decide (rg r 2 = 0) == decide (p = 23) then farP r n else nextP r), l, 0) := by
  rcases hp with rfl | rfl
  · show (goP r (if rg r 2 = 0 then farP r n else nextP r), l, (0 : Int)) = _
    by_cases h : rg r 2 = 0 <;> simp [h]
  · show (goP r (if rg r 2 = 0 then nextP r else farP r n), l, (0 : Int)) = _
    by_cases h : rg r 2 = 0 <;> simp [h]

/-- one step over four bytes -/
theorem over4 {r : List Nat} {l : List UInt8} {c : Cd} {r' : List Nat} (hp : rg r 16 = 0) (hl : l.length = 4) (hd : decode l = some c) (hc : doP r l c = (r', l, 0)) : overP 1 0 r l = (r', l, 1, 0) := by
  have hld : ldP l (rg r 16) 4 = some l := by
    rw [hp]
    unfold ldP
    rw [if_pos (by omega), List.drop_zero, List.take_of_length_le (by omega)]
  have hs := (stepP_of hld hd).trans hc
  rw [overP_go (by rw [hs]), hs]
  rfl

theorem rCv16 {n : Int} {K : Value → Prop} (hK : ∀ N : Int, -32768 ≤ N → N < 32768 → K (it N)) : vConv (.int .i16) (it n) fun v => vConv (.int .i64) v K := by
  refine rCv <| rCv ?_
  rw [wrap_i16, wrap_id (by split <;> omega) (by split <;> omega)]
  exact hK _ (by split <;> omega) (by split <;> omega)

/-- CpuWays, its loop -/
theorem ways_loop {w w1 W : World} {x : Nat} {N : Int} {K : Value → World → Prop} (hx : x < 18446744073709551616) (hN1 : -32768 ≤ N) (hN2 : N < 32768) (hT : Tabs w1) (f1 : Fr (fun _ => False) w w1) (fW : Fr (fun _ => False) w1 W) (hK : ∀ w', Fr (fun _ => False) w w' → K (.bool true) w') :
    loopF [1, 2, 15] [ut x, it N, it 23] [] W (F9L1 K) := by
  refine ⟨fun vs ds V => ds = [] ∧ Fr (fun _ => False) w1 V ∧ ∃ i : Nat, i ≤ 2 ∧ vs = [ut x, it N, it ((23 + i : Nat) : Int)], fun vs _ _ => match vs with | [_, _, .int _ i] => 25 - i.toNat | _ => 0, ⟨rfl, fW, 0, by decide, rfl⟩, ?_⟩
  rintro ρ ds V ⟨rfl, fV, i, hi, hρ⟩
  have hρ0 := hρ
  simp only [List.map_cons, List.map_nil, List.cons.injEq, and_true] at hρ
  obtain ⟨e1, e2, e15⟩ := hρ
  unfold F9L1
  rw [hρ0, e1, e2, e15]
  refine rLe <| rIf (fun hle => ?_) (fun _ => hK V (f1.more fV))
  have hle : i ≤ 1 := by
    have : ((23 + i : Nat) : Int) ≤ 24 := by simpa using hle
    omega
  refine rCv <| rCv <| rShrI (i := 8) (by decide) <| rCv ?_
  rw [wrap_u8i, wrap_u8i, wrap_u8i, show N / 2 ^ 8 = N / 256 from rfl]
  refine bs42_4 (b := 2) ?_
  intro w2 v b2 f2 s2
  refine b2.toStr <| memory_spec ?_
  intro w3 g o3
  have hm : memP [u8 ((23 + i : Nat) : Int), 2, u8 N, u8 (N / 256)] = [u8 ((23 + i : Nat) : Int), 2, u8 N, u8 (N / 256)] := rfl
  rw [hm] at o3
  refine build25e <| newSt St.zero ?_
  intro w5 f5 c5 s5
  have hlt := o3.ge
  refine rFA0 <| rIAr (a := 2) (by decide) (by decide) <| rSt c5 (by simp) rfl (by simp) ?_
  intro w7 u7
  have c7 : Cs w7 w3.heap.size (stc (putP (List.replicate 17 0) 2 x)) := by
    have := u7.cs
    rw [stc_put (List.replicate 17 0) 2 x] at this
    exact this
  have f37 : Fr (fun _ => False) w3 w7 := f5.trans u7.fr fun k hk e => by omega
  have hst := St.zero.put (i := 2) hx
  have f27 := o3.fr.more f37
  have fV2 := fV.more f2
  refine ld17 hst c7 ?_
  refine over_spec (n := 1) (hT.fr fV2) (o3.more f37) hst (by decide) (by decide) ?_
  rw [show (1 : Int).toNat = 1 from rfl]
  have hp : ((23 + i : Nat) : Int) = 23 ∨ ((23 + i : Nat) : Int) = 24 := by omega
  have ho : (((23 + i : Nat) : Int) = 23 ∧ u8 ((23 + i : Nat) : Int) = 23) ∨ (((23 + i : Nat) : Int) = 24 ∧ u8 ((23 + i : Nat) : Int) = 24) := by
    rcases hp with h | h
    · exact .inl ⟨h, by rw [h]; rfl⟩
    · exact .inr ⟨h, by rw [h]; rfl⟩
  have hov := over4 (r := putP (List.replicate 17 0) 2 x) rfl rfl (decWay ho hN1 hN2) (doWay _ _ hp)
  have hr2 : rg (putP (List.replicate 17 0) 2 x) 2 = x := rfl
  have hnx : nextP (putP (List.replicate 17 0) 2 x) = 4 := rfl
  rw [hr2, hnx] at hov
  rw [hov]
  intro w8 g' ev8 o8 hst8
  refine rT0 <| rT1 <| rT2 <| newSt hst8 ?_
  intro w10 f10 c10 s10
  have fall : Fr (fun _ => False) w1 w10 := (fV2.more o8.fr).more f10
  have h16 : rg (goP (putP (List.replicate 17 0) 2 x) (if (decide (x = 0) == decide (((23 + i : Nat) : Int) = 23)) = true then farP (putP (List.replicate 17 0) 2 x) N else 4)) 16 = (if (decide (x = 0) == decide (((23 + i : Nat) : Int) = 23)) = true then farP (putP (List.replicate 17 0) 2 x) N else 4) := by
    unfold goP
    rw [rg_put (by decide) (by decide) (by decide) (by simp [putP]), if_pos rfl]
  have c16 := hst8.cell (i := 16) (by decide)
  rw [h16] at c16
  have hfar : farP (putP (List.replicate 17 0) 2 x) N = ((4 + 4 * N) % 18446744073709551616).toNat := rfl
  have es : ((23 + i : Nat) : Int) + 1 = ((23 + (i + 1) : Nat) : Int) := by omega
  have hms : 25 - ((23 + (i + 1) : Nat) : Int).toNat < 25 - ((23 + i : Nat) : Int).toNat := by omega
  refine rEqU (y := 0) <| rEq <| rEqB ?_
  have hb : (((23 + i : Nat) : Int) == 23) = decide (((23 + i : Nat) : Int) = 23) := rfl
  rw [hb]
  refine rIf (fun hc => ?_) (fun hc => ?_)
  · have hw : ∀ {Q : Value → Prop}, Q (ut ((4 + 4 * N) % 18446744073709551616).toNat) → vConv (.int .u64) (it N) fun v110 => vBin (.int .u64) .mul (.int .u64 4) v110 fun v111 => vBin (.int .u64) .add (.int .u64 4) v111 Q := by
      intro Q q
      refine rCv ?_
      rw [wrap_u64m]
      refine ⟨rfl, rfl, ?_⟩
      rw [wrap_u64m, wrap_u64m]
      have : (4 + 4 * (N % 18446744073709551616) % 18446744073709551616) % 18446744073709551616 = ((((4 + 4 * N) % 18446744073709551616).toNat : Nat) : Int) := by omega
      rw [this]
      exact q
    refine hw <| rNe <| rIfF <| rFA0 <| rLd c10 c16 ?_
    rw [if_pos hc, hfar]
    refine rNeU ?_
    rw [decide_eq_true rfl]
    refine rIfF <| rAdd (by omega) (by omega) ?_
    rw [es]
    exact ⟨⟨rfl, fall, i + 1, by omega, rfl⟩, hms⟩
  · refine rNe <| rIfF <| rFA0 <| rLd c10 c16 ?_
    rw [if_neg (by rw [hc]; decide)]
    refine rNeU (y := 4) ?_
    refine rIfF <| rAdd (by omega) (by omega) ?_
    rw [es]
    exact ⟨⟨rfl, fall, i + 1, by omega, rfl⟩, hms⟩

/-- CpuWays -/
theorem law9 {w : World} {n : Int} {t x : Nat} {K : Value → World → Prop} (hT : Tabs w) (ht : t < 18446744073709551616) (hx : x < 18446744073709551616) (hK : ∀ w', Fr (fun _ => False) w w' → K (.bool true) w') : Ret Tryd.prog 9 #[ut t, ut x, it n] w K := by
  apply F9_ok
  unfold F9
  refine lives_spec hT ?_
  intro w1 f1
  refine rNot <| rIfF <| rCv16 fun N hN1 hN2 => ?_
  refine memory_spec (s := [25, 15, 1, 0]) ?_
  intro w2 g o2
  have hm : memP [25, 15, 1, 0] = [25, 15, 1, 0] := rfl
  rw [hm] at o2
  refine rPNil' <| rIfF <| build25e <| newSt St.zero ?_
  intro w4 f4 c4 s4
  have hT1 := hT.fr f1
  refine rFA0 <| rIAr (a := 1) (by decide) (by decide) <| rSt c4 (by simp) rfl (by simp) ?_
  intro w5 u5
  have c5 : Cs w5 w2.heap.size (stc (putP (List.replicate 17 0) 1 t)) := by
    have := u5.cs
    rw [stc_put (List.replicate 17 0) 1 t] at this
    exact this
  have f25 : Fr (fun _ => False) w2 w5 := f4.trans u5.fr fun k hk e => by omega
  have hst := St.zero.put (i := 1) ht
  refine ld17 hst c5 ?_
  refine over_spec (n := 1) hT1 (o2.more f25) hst (by decide) (by decide) ?_
  rw [show (1 : Int).toNat = 1 from rfl, over4 (r := putP (List.replicate 17 0) 1 t) rfl rfl d25 (do25 _ _)]
  intro w6 g6 ev6 o6 hst6
  refine rT0 <| rT1 <| rT2 <| newSt hst6 ?_
  intro w8 f8 c8 s8
  have f18 : Fr (fun _ => False) w1 w8 := o6.fr.more f8
  refine joinOne (L := [ut x, it N, pt w6.heap.size 0, .bool false]) (ds := []) (w := w8) ?_ ?_
  · refine rNe <| rIfF <| rFA0 <| rLd c8 (v := ut t) rfl <| rNeU ?_
    rw [decide_eq_true rfl]
    refine rIfF <| rFA0 <| rIAr (a := 15) (by decide) (by decide) <| rLd c8 (v := ut 4) rfl <| rNeU (y := 4) <| rIfF <| rFA0 <| rIAr (a := 1) (by decide) (by decide) <| rLd c8 (v := ut t) rfl <| rNeU ?_
    rw [decide_eq_true rfl]
    exact ⟨rfl, rfl, rfl⟩
  intro ρ hρ
  simp only [List.map_cons, List.map_nil, List.cons.injEq, and_true] at hρ
  obtain ⟨e1, e2, e9, e61⟩ := hρ
  unfold F9J1
  rw [e1, e2, e9, e61]
  refine rIfF <| memory_spec (s := [26, 0, 0, 0]) ?_
  intro w9 g9 o9
  have hm : memP [26, 0, 0, 0] = [26, 0, 0, 0] := rfl
  rw [hm] at o9
  have c9 := c8.fr o9.fr id
  have hw6 := o6.fr.size
  refine rFA0 <| rSt c9 (by rw [stc_len hst6]; decide) rfl (by simp) ?_
  intro w10 u10
  have c10 := u10.cs
  have e16 : ∀ r : List Nat, (stc r).set 16 (Value.int .u64 0) = stc (putP r 16 0) := fun r => stc_put r 16 0
  rw [e16] at c10
  have hst10 := hst6.put (i := 16) (v := 0) (by decide)
  have hq : w6.heap.size < w8.heap.size := c8.lt
  have n9 : ¬ g9.sees w6.heap.size := fun h => by have := o9.mine _ h; omega
  have o10 : Own w1 w10 g9 _ _ := (o9.base f18).frp u10.fr hw6 n9
  refine ld17 hst10 c10 ?_
  refine over_spec (l := [26, 0, 0, 0]) (n := 1) hT1 o10 hst10 (by decide) (by decide) ?_
  rw [show (1 : Int).toNat = 1 from rfl, over4 (l := [26, 0, 0, 0]) rfl rfl d26 (do26 _ _)]
  intro w11 g11 ev11 o11 hst11
  refine rT0 <| rT1 <| rT2 <| newSt hst11 ?_
  intro w13 f13 c13 s13
  refine joinOne (L := [ut x, it N, .bool false]) (ds := []) (w := w13) ?_ ?_
  · exact rNe <| rIfF <| rFA0 <| rLd c13 (v := ut 4) rfl <| rNeU (y := 4) ⟨rfl, rfl, rfl⟩
  intro ρ hρ
  simp only [List.map_cons, List.map_nil, List.cons.injEq, and_true] at hρ
  obtain ⟨e1, e2, e77⟩ := hρ
  unfold F9J2
  rw [e1, e2, e77]
  exact rIfF <| ways_loop hx hN1 hN2 hT1 f1 (o11.fr.more f13) hK

end Go.Proofs.YtmaecpbkbkncgaaDoor
