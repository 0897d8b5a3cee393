/-
  Cpu, part 16: CpuReckons. Own work.
-/
import Derived.Test.YtmaecpbkbkncgaaDoorC15
set_option linter.unusedVariables false
set_option linter.unusedSimpArgs false
set_option maxRecDepth 100000
namespace Go.Proofs.YtmaecpbkbkncgaaDoor
open Go Go.V Go.RowKit

theorem u8_small {n : Int} (h0 : 0 ≤ n) (h1 : n < 256) : ((u8 n).toNat : Int) = n := by rw [u8_toN]; omega

theorem decode_enc3 {x : Cd} (h : rightB x = true) (ho : 6 ≤ x.op ∧ x.op ≤ 17) : enc x = [u8 x.op, u8 x.a, u8 x.b, u8 x.c] ∧ decode (enc x) = some x := by
  obtain ⟨h1, hf, ha, hb, hc⟩ := right_regs h
  have hn : shNum x.op = 0 := by
    unfold shNum
    rw [if_neg (by omega), if_neg (by omega), if_pos ho]
  have hz : x.n = 0 := by
    rw [hn] at hf
    simpa [fitsN] using hf
  have he : enc x = [u8 x.op, u8 x.a, u8 x.b, u8 x.c] := by
    unfold enc
    rw [hn]
    rfl
  refine ⟨he, ?_⟩
  have hop : ((u8 x.op).toNat : Int) = x.op := u8_small h1.1 (by omega)
  have hd : decC (u8 x.op) (u8 x.a) (u8 x.b) (u8 x.c) = x := by
    unfold decC
    rw [hop, hn, if_neg (by decide), if_neg (by decide), if_neg (by decide), u8_small ha.1 (by omega), u8_small hb.1 (by omega), u8_small hc.1 (by omega)]
    cases x
    simp only at hz
    rw [hz]
  rw [he, decode4, hd, if_pos h]

theorem do3 {r : List Nat} {l : List UInt8} {c : Cd} (ho : 6 ≤ c.op ∧ c.op ≤ 17) : doP r l c = (goP (putP r c.a (reck c.op (rg r c.b) (rg r c.c))) (nextP r), l, 0) := by
  unfold doP
  rw [if_neg (by omega), if_neg (by omega), if_neg (by omega), if_neg (by omega), if_neg (by omega), if_neg (by omega), if_neg (by omega), if_neg (by omega), if_neg (by omega), if_neg (by omega), if_neg (by omega), if_neg (by omega)]

/-- CpuReckons -/
theorem law5 {w : World} {c : Cd} {x y : Nat} {K : Value → World → Prop} (hT : Tabs w) (hx : x < 18446744073709551616) (hy : y < 18446744073709551616) (hK : ∀ w', Fr (fun _ => False) w w' → K (.bool true) w') : Ret Tryd.prog 5 #[c.v, ut x, ut y] w K := by
  apply F5_ok
  unfold F5
  refine rBoxA ?_
  intro w1 c1' f1 s1
  have c1 : Cs w1 w.heap.size c.cs := c1'
  refine lives_spec (hT.fr f1) ?_
  intro w2 f2
  have f02 := f1.more f2
  have c2 := c1.fr f2 id
  refine rNot <| rIfF ?_
  refine ⟨fun vs ds W => ds = [] ∧ Fr (fun _ => False) w2 W ∧ vs = [ut x, ut y, pt w.heap.size 0, .bool (!(rightB c) || (decide (c.op < 6) || decide (17 < c.op)))], ?_, ?_⟩
  · refine rLdN c2 (by simp) <| rright_spec (x := c) ?_
    intro w3 f3
    have c3 := c2.fr f3 id
    refine rNot <| rIf (fun h => ⟨rfl, f3, by rw [h]; rfl⟩) (fun h => ?_)
    rw [h, Bool.false_or]
    refine rFA0 <| rLd c3 rfl <| rLt <| rIf (fun h => ⟨rfl, f3, by rw [h]; rfl⟩) (fun h => ?_)
    rw [h, Bool.false_or]
    exact rFA0 <| rLd c3 rfl <| rGt ⟨rfl, f3, rfl⟩
  rintro ρ ds W ⟨rfl, fW, hρ⟩
  simp only [List.map_cons, List.map_nil, List.cons.injEq, and_true] at hρ
  obtain ⟨e1, e2, e3, e26⟩ := hρ
  unfold F5J1
  rw [e1, e2, e3, e26]
  have f0W := f02.more fW
  have cW := c2.fr fW id
  refine rIf (fun _ => hK W f0W) (fun hb => ?_)
  have hb : rightB c = true ∧ 6 ≤ c.op ∧ c.op ≤ 17 := by
    simp at hb
    exact ⟨hb.1, hb.2.1, hb.2.2⟩
  obtain ⟨hr, ho⟩ := hb
  obtain ⟨hop, hfit, ha, hbb, hcc⟩ := right_regs hr
  obtain ⟨henc, hdec⟩ := decode_enc3 hr ho
  have hn : c.n = 0 := by
    have hn : shNum c.op = 0 := by
      unfold shNum
      rw [if_neg (by omega), if_neg (by omega), if_pos ho]
    rw [hn] at hfit
    simpa [fitsN] using hfit
  refine rLdN cW (by simp) <| rencode_spec (x := c) (by omega) (by omega) ?_
  intro w3 f3
  have c3 := cW.fr f3 id
  refine memory_spec ?_
  intro w4 g o4
  have hm : memP (enc c) = enc c := by rw [henc]; rfl
  rw [hm] at o4
  have c4 := c3.fr o4.fr id
  have hlt := o4.ge
  refine rPNil' <| rIfF <| build25e <| newSt St.zero ?_
  intro w5 f5 d5 s5
  have c5 := c4.fr f5 id
  have hq : w.heap.size < w4.heap.size := c4.lt
  have h0 : St (List.replicate 17 0) := St.zero
  refine rFA0 <| rLd c5 rfl <| rFA0 <| rIAr hbb.1 hbb.2 <| rSt d5 (by rw [stc_len h0]; omega) rfl (by simp) ?_
  intro w6 u6
  have d6 := u6.cs
  rw [stc_put] at d6
  have h6 := h0.put (i := c.b) hx
  have c6 := c5.up u6 (by omega)
  refine rFA0 <| rLd c6 rfl <| rFA0 <| rIAr hcc.1 hcc.2 <| rSt d6 (by rw [stc_len h6]; omega) rfl (by simp) ?_
  intro w7 u7
  have d7 := u7.cs
  rw [stc_put] at d7
  have h7 := h6.put (i := c.c) hy
  have c7 := c6.up u7 (by omega)
  have f47 : Fr (fun _ => False) w4 w7 := (f5.trans u6.fr fun k hk e => by omega).trans u7.fr fun k hk e => by omega
  have hrC : rg (putP (putP (List.replicate 17 0) c.b x) c.c y) c.c = y := by
    rw [rg_put hcc.1 (by omega) hcc.1 (by simp [putP]), if_pos rfl]
  have hrB : rg (putP (putP (List.replicate 17 0) c.b x) c.c y) c.b = if c.b = c.c then y else x := by
    rw [rg_put hcc.1 (by omega) hbb.1 (by simp [putP]), rg_put hbb.1 (by omega) hbb.1 (by simp), if_pos rfl]
    by_cases e : c.b = c.c
    · rw [if_pos e, if_pos e.symm]
    · rw [if_neg e, if_neg (fun h => e h.symm)]
  have h16 : rg (putP (putP (List.replicate 17 0) c.b x) c.c y) 16 = 0 := by
    rw [rg_put hcc.1 (by omega) (by decide) (by simp [putP]), if_neg (by omega), rg_put hbb.1 (by omega) (by decide) (by simp), if_neg (by omega)]
    rfl
  generalize hR : putP (putP (List.replicate 17 0) c.b x) c.c y = r at *
  generalize hX : (if c.b = c.c then y else x) = x' at *
  have hx' : x' < 18446744073709551616 := by rw [← hX]; split <;> assumption
  refine joinOne (L := [ut x', ut y, pt w.heap.size 0, pt g.b 0, pt w4.heap.size 0]) (ds := []) (w := w7) ?_ ?_
  · refine rFA0 <| rLd c7 rfl <| rFA0 <| rLd c7 rfl <| rEqE (fun h => ?_) (fun h => ?_)
    · rw [if_pos h] at hX
      exact ⟨by rw [hX], rfl, rfl⟩
    · rw [if_neg h] at hX
      exact ⟨by rw [hX], rfl, rfl⟩
  intro ρ hρ
  simp only [List.map_cons, List.map_nil, List.cons.injEq, and_true] at hρ
  obtain ⟨e1, e2, e3, e7, e8⟩ := hρ
  unfold F5J2
  rw [e1, e2, e3, e7, e8]
  have fW3 := f0W.more f3
  refine ld17 h7 d7 ?_
  refine over_spec (n := 1) ((hT.fr fW3)) (o4.more f47) h7 (by decide) (by decide) ?_
  have hov := over4 (l := enc c) h16 (by rw [henc]; rfl) hdec (do3 (r := r) (l := enc c) ho)
  have hnx : nextP r = 4 := by unfold nextP; rw [h16]
  rw [hrB, hrC, hnx] at hov
  rw [show (1 : Int).toNat = 1 from rfl, hov]
  intro w8 g8 ev8 o8 hst8
  have n4 : ¬ g.sees w4.heap.size := fun h => by have := hlt _ h; omega
  have nc : ¬ g.sees w.heap.size := fun h => by have := o4.mine _ h; have := c3.lt; omega
  have d8 := d7.fr ev8.fr fun h => n4 (.inl h)
  have c8 := c7.fr ev8.fr fun h => nc (.inl h)
  refine rT0 <| rT1 <| rT2 <| newSt hst8 ?_
  intro w10 f10 c10 s10
  have d10 := d8.fr f10 id
  have b10 := c8.fr f10 id
  have fall : Fr (fun _ => False) w w10 := ((fW3.more o8.fr).more f10)
  refine ⟨fun W => Cs W w.heap.size c.cs, b10.drew, ?_⟩
  refine rFA0 <| rLdS (it c.a) (fun W hW => ⟨_, hW, rfl⟩) <| rFA0 <| rLdS (it c.op) (fun W hW => ⟨_, hW, rfl⟩) <| rFA0 ⟨?_, trivial⟩
  refine rreckon_spec ho hx' hy ⟨b10.drew, ?_⟩
  refine rIAr ha.1 ha.2 ⟨?_, trivial⟩
  refine rSt d10.drew (by rw [stc_len h7]; omega) rfl (by simp) ?_
  intro w11 u11
  have d11 := u11.cs
  rw [stc_put] at d11
  have h11 := h7.put (i := c.a) (reck_lt (op := c.op) hx' hy)
  refine rFA0 <| rSt d11 (by rw [stc_len h11]; decide) rfl (by simp) ?_
  intro w12 u12
  have d12 := u12.cs
  have e16 : ∀ r : List Nat, (stc r).set 16 (Value.int .u64 4) = stc (putP r 16 4) := fun r => stc_put r 16 4
  rw [e16] at d12
  have hne : w8.heap.size ≠ w4.heap.size := by have := d8.lt; omega
  have c12 := (c10.drew.up u11 hne).up u12 hne
  have f12 : Fr (fun _ => False) w w12 := (fall.drew.trans u11.fr fun k hk e => by omega).trans u12.fr fun k hk e => by omega
  refine ld17 hst8 c12 <| ld17 hst8 d12 <| rStEq hst8 hst8 ?_
  rw [decide_eq_true rfl]
  refine rIfT <| rEq <| rIfT <| rEq ?_
  exact hK w12 f12

end Go.Proofs.YtmaecpbkbkncgaaDoor
