/-
  Cpu, part 18: the document's steps: Does. Own work.
-/
import Derived.Test.YtmaecpbkbkncgaaDoorC17
set_option linter.unusedVariables false
set_option linter.unusedSimpArgs false
set_option maxRecDepth 100000
namespace Go.Proofs.YtmaecpbkbkncgaaDoor
open Go Go.V Go.RowKit

/-- gatehouseref06.Does -/
theorem does_spec {w : World} {r : List Nat} {c : Cd} {s : List UInt8} {K : Value → World → Prop} (hr : St r) (hc : rightB c = true) (hn1 : -32768 ≤ c.n) (hn2 : c.n < 65536) (hs : s.length ≤ 8) (hK : ∀ w', Fr (fun _ => False) w w' → St (doesP r c s).1 → K (.tuple #[stv (doesP r c s).1, it (doesP r c s).2]) w') : CallK Tryd.prog 52 #[stv r, c.v, str s] w K := by
  apply Ret.call
  apply F52_ok
  unfold F52
  obtain ⟨hop, hfit, ha, hb, hcc⟩ := right_regs hc
  refine rBoxA ?_
  intro w1 c1' f1 s1
  have c1 : Cs w1 w.heap.size (stc r) := c1'
  refine rBoxA ?_
  intro w2 d2' f2 s2
  have d2 : Cs w2 w1.heap.size c.cs := d2'
  have c2 := c1.fr f2 id
  refine rAllocT zc25 ?_
  intro w3 h3 f3 s3
  have e3 : Cs w3 w2.heap.size (stc (List.replicate 17 0)) := ⟨_, h3⟩
  have c3 := c2.fr f3 id
  have d3 := d2.fr f3 id
  have f03 := (f1.more f2).more f3
  have hb3 : w.heap.size < w1.heap.size ∧ w1.heap.size < w2.heap.size := by omega
  clear c1 c1' c2 d2 d2' h3
  generalize w.heap.size = b3 at *
  generalize w1.heap.size = b4 at *
  generalize hb6 : w2.heap.size = b6 at *
  have hnx := nextP_lt r
  have hfar := farP_lt r c.n
  refine rFA0 <| rLd c3 (hr.cell (i := 16) (by decide)) <| rAddU (y := 4) ?_
  show joinF _ _ _
  have en : (rg r 16 + 4) % 18446744073709551616 = nextP r := rfl
  rw [en]
  refine joinOne (L := [str s, pt b3 0, pt b4 0, pt b6 0, ut (nextP r), ut (farP r c.n)]) (ds := []) (w := w3) ?_ ?_
  · refine rFA0 <| rLd d3 rfl <| rLt <| rIf (fun h => ?_) (fun h => ?_)
    · have h : c.n < 0 := by simpa using h
      exact rFA0 <| rLd d3 rfl <| rWay hnx hn1 hn2 h ⟨rfl, rfl, rfl⟩
    · exact rFA0 <| rLd d3 rfl <| rFar hn1 hn2 ⟨rfl, rfl, rfl⟩
  intro ρ hρ
  simp only [List.map_cons, List.map_nil, List.cons.injEq, and_true] at hρ
  obtain ⟨e2, e3', e4, e6, e8, e9⟩ := hρ
  unfold F52J1
  rw [e2, e3', e4, e6, e8, e9]
  refine ld17 hr c3 <| newSt hr ?_
  intro w5 f5 c5 s5
  refine rFA0 <| rSt c5 (by rw [stc_len hr]; decide) rfl (by simp) ?_
  intro w6 u6
  have q6 := u6.cs
  have e16 : ∀ (r : List Nat) (v : Nat), (stc r).set 16 (ut v) = stc (goP r v) := fun r v => stc_put r 16 v
  rw [e16] at q6
  have hw3 := e3.lt
  have c6 := (c3.fr f5 id).up u6 (by omega)
  have d6 := (d3.fr f5 id).up u6 (by omega)
  have z6 := (e3.fr f5 id).up u6 (by omega)
  have f06 : Fr (fun _ => False) w w6 := (f03.more f5).trans u6.fr fun k hk e => by have := f03.size; omega
  have hs3 : w2.heap.size ≤ w3.heap.size := f3.size
  have hw := f1.size
  have hw2 := f2.size
  have hgo : St (goP r (nextP r)) := hr.put hnx
  clear c3 d3 e3 c5 u6 f5 s5
  have h10 : b6 < w3.heap.size := hw3
  generalize w3.heap.size = q at *
  have hwb : w.heap.size ≤ b6 := by omega
  have hwq : w.heap.size ≤ q := by omega
  -- the leaves
  have FIN : ∀ {r' : List Nat} {W : World} {x : Int}, St r' → Cs W b6 (stc (List.replicate 17 0)) → Fr (fun _ => False) w W → (∀ w', Fr (fun _ => False) w w' → St r' → K (.tuple #[stv r', it x]) w') →
      vSt (some 17) (pt b6 0) (stv r') W fun w2 => leaveV [] w2 fun W => vLd (.agg 17) (pt b6 0) W fun v => K (.tuple #[v, it x]) W := by
    intro r' W x hr' cz f hk
    refine lay17 (w0 := w) (K := fun v W => K (.tuple #[v, it x]) W) hr' cz (by simp) ?_
    intro w' f'
    exact hk w' (f.trans f' fun k hk e => by omega) hr'
  -- Pc is laid anew
  have GO : ∀ {v : Nat} {x : Int}, v < 18446744073709551616 → (∀ w', Fr (fun _ => False) w w' → St (goP r v) → K (.tuple #[stv (goP r v), it x]) w') →
      vFA (some 16) (pt q 0) fun p => vSt (some 1) p (ut v) w6 fun w' => vLd (.agg 17) (pt q 0) w' fun v => vSt (some 17) (pt b6 0) v w' fun w2 => leaveV [] w2 fun W => vLd (.agg 17) (pt b6 0) W fun v => K (.tuple #[v, it x]) W := by
    intro v x hv hk
    refine rFA0 <| rSt q6 (by rw [stc_len hgo]; decide) rfl (by simp) ?_
    intro w7 u7
    have q7 := u7.cs
    rw [e16, goP_goP] at q7
    have h7 : St (goP r v) := hr.put hv
    exact ld17 h7 q7 <| FIN h7 (z6.up u7 (by omega)) (f06.trans u7.fr fun k hk e => by omega) hk
  unfold doesP at hK
  have hSS : (Cs w6.drew b4 c.cs ∧ Cs w6.drew b3 (stc r)) ∧ Cs w6.drew q (stc (goP r (nextP r))) := ⟨⟨d6.drew, c6.drew⟩, q6.drew⟩
  have ldC : ∀ {v : Value} {o : Nat} {Q : Value → Prop}, c.cs[o]? = some v → Q v → vLdS (fun W => (Cs W b4 c.cs ∧ Cs W b3 (stc r)) ∧ Cs W q (stc (goP r (nextP r)))) .one (pt b4 o) Q := fun hv k => rLdS _ (fun W hW => ⟨_, hW.1.1, hv⟩) k
  have ldR : ∀ {i : Int} {Q : Value → Prop}, i < 17 → Q (ut (rg r i)) → vLdS (fun W => (Cs W b4 c.cs ∧ Cs W b3 (stc r)) ∧ Cs W q (stc (goP r (nextP r)))) .one (pt b3 i.toNat) Q := fun hi k => rLdS _ (fun W hW => ⟨_, hW.1.2, hr.cell hi⟩) k
  have ldQ : ∀ {Q : Value → Prop}, Q (stv (goP r (nextP r))) → vLdS (fun W => (Cs W b4 c.cs ∧ Cs W b3 (stc r)) ∧ Cs W q (stc (goP r (nextP r)))) (.agg 17) (pt q 0) Q := by
    intro Q k
    refine ⟨stc (goP r (nextP r)), stc_len hgo, fun W hW j v hj => ?_, k⟩
    rw [addr_add, Nat.zero_add]
    exact Cs.cell hW.2 hj
  have keep : ∀ {V W : World}, Fr (fun _ => False) V W → ((Cs V b4 c.cs ∧ Cs V b3 (stc r)) ∧ Cs V q (stc (goP r (nextP r)))) → ((Cs W b4 c.cs ∧ Cs W b3 (stc r)) ∧ Cs W q (stc (goP r (nextP r)))) := fun f h => ⟨⟨h.1.1.fr f id, h.1.2.fr f id⟩, h.2.fr f id⟩
  refine rFA0 <| rLd d6 rfl <| rEqE (fun h => ?_) (fun h => ?_)
  · rw [if_pos h] at hK
    exact ld17 hr c6 <| FIN hr z6 f06 hK
  rw [if_neg h] at hK
  refine rEqE (fun h => ?_) (fun h => ?_)
  · rw [if_pos h] at hK
    exact ld17 hgo q6 <| FIN hgo z6 f06 hK
  rw [if_neg h] at hK
  refine rEqE (fun h => ?_) (fun h => ?_)
  · rw [if_pos h] at hK
    have hn : 0 ≤ c.n ∧ c.n < 65536 := by
      have : shNum c.op = 1 := by unfold shNum; rw [if_pos (by omega)]
      rw [this] at hfit
      simpa [fitsN] using hfit
    refine ld17 hgo q6 <| rFA0 <| rLd d6 rfl <| rFA0 <| rLd d6 rfl <| uNat hn.1 hn.2 <| put_spec hgo ha (by omega) ?_
    intro W fW
    exact FIN (hgo.put (by omega)) (z6.fr fW id) (f06.more fW) hK
  rw [if_neg h] at hK
  refine rEqE (fun h => ?_) (fun h => ?_)
  · rw [if_pos h] at hK
    have hn : 0 ≤ c.n ∧ c.n < 65536 := by
      have : shNum c.op = 1 := by unfold shNum; rw [if_pos (by omega)]
      rw [this] at hfit
      simpa [fitsN] using hfit
    refine ⟨_, hSS, ldQ <| rFA0 <| ldC rfl <| rFA0 <| ldC rfl <| rFA0 <| rIAr ha.1 ha.2 <| ldR (by omega) <| rMulU (y := 65536) <| rFA0 <| ldC rfl <| uNat hn.1 hn.2 <| rAddU ⟨?_, trivial⟩⟩
    have e : (rg r c.a * 65536 % 18446744073709551616 + c.n.toNat) % 18446744073709551616 = (rg r c.a * 65536 + c.n.toNat) % 18446744073709551616 := by omega
    rw [e]
    refine put_spec hgo ha (Nat.mod_lt _ (by decide)) ?_
    intro W fW
    have fd : Fr (fun _ => False) w6 W := (Fr.refl _ w6).drew.more fW
    exact ⟨keep fW hSS, FIN (hgo.put (Nat.mod_lt _ (by decide))) (z6.fr fd id) (f06.more fd) hK, trivial⟩
  rw [if_neg h] at hK
  refine rEqE (fun h => ?_) (fun h => ?_)
  · rw [if_pos h] at hK
    refine ⟨_, hSS, ldQ <| rFA0 <| ldC rfl <| rFA0 <| ldC rfl <| rFA0 <| rIAr hb.1 hb.2 <| ldR (by omega) ⟨?_, trivial⟩⟩
    refine put_spec hgo ha (hr.rg_lt _) ?_
    intro W fW
    have fd : Fr (fun _ => False) w6 W := (Fr.refl _ w6).drew.more fW
    exact ⟨keep fW hSS, FIN (hgo.put (hr.rg_lt _)) (z6.fr fd id) (f06.more fd) hK, trivial⟩
  rw [if_neg h] at hK
  refine joinOne (L := [str s, pt b3 0, pt b4 0, pt b6 0, ut (nextP r), ut (farP r c.n), pt q 0, it c.op, .bool (decide (c.op = 18 ∨ c.op = 20))]) (ds := []) (w := w6) ?_ ?_
  · refine rEq <| rIf (fun h => ?_) (fun h => rEq ⟨?_, rfl, rfl⟩)
    · rw [h]
      have h : c.op = 18 := by simpa using h
      exact ⟨by simp [h], rfl, rfl⟩
    · have h : ¬ c.op = 18 := by simpa using h
      have : (c.op == 20) = decide (c.op = 18 ∨ c.op = 20) := by simp [h]; rfl
      rw [this]
  intro ρ hρ
  simp only [List.map_cons, List.map_nil, List.cons.injEq, and_true] at hρ
  obtain ⟨e2, e3', e4, e6, e8, e9, e10, e34, e77⟩ := hρ
  unfold F52J5
  rw [e2, e3', e4, e6, e8, e9, e10, e34, e77]
  refine rIf (fun h => ?_) (fun h => ?_)
  · have h : c.op = 18 ∨ c.op = 20 := by simpa using h
    rw [if_pos h] at hK
    have hwv : wv s < 18446744073709551616 := Nat.lt_of_lt_of_le (wv_lt s) (by
      have : 256 ^ s.length ≤ 256 ^ 8 := Nat.pow_le_pow_right (by decide) hs
      exact this)
    refine ⟨_, hSS, ldQ <| rFA0 <| ldC rfl ⟨?_, trivial⟩⟩
    refine value_spec hs ⟨hSS, ?_, trivial⟩
    refine put_spec hgo ha hwv ?_
    intro W fW
    have fd : Fr (fun _ => False) w6 W := (Fr.refl _ w6).drew.more fW
    exact ⟨keep fW hSS, FIN (hgo.put hwv) (z6.fr fd id) (f06.more fd) hK, trivial⟩
  have h : ¬ (c.op = 18 ∨ c.op = 20) := by simpa using h
  rw [if_neg h] at hK
  refine rEqE (fun h => ?_) (fun h => ?_)
  · rw [if_pos h] at hK
    exact GO hfar hK
  rw [if_neg h] at hK
  refine rEqE (fun h => ?_) (fun h => ?_)
  · rw [if_pos h] at hK
    refine rFA0 <| rLd d6 rfl <| rFA0 <| rIAr ha.1 ha.2 <| rLd c6 (hr.cell (by omega)) <| rEqU (y := 0) <| rIf (fun h => ?_) (fun h => ?_)
    · rw [if_pos (by simpa using h)] at hK
      exact GO hfar hK
    · rw [if_neg (by simpa using h)] at hK
      exact ld17 hgo q6 <| FIN hgo z6 f06 hK
  rw [if_neg h] at hK
  refine rEqE (fun h => ?_) (fun h => ?_)
  · rw [if_pos h] at hK
    refine rFA0 <| rLd d6 rfl <| rFA0 <| rIAr ha.1 ha.2 <| rLd c6 (hr.cell (by omega)) <| rNeU (y := 0) <| rIf (fun h => ?_) (fun h => ?_)
    · rw [if_neg (by simpa using h)] at hK
      exact GO hfar hK
    · rw [if_pos (by simpa using h)] at hK
      exact ld17 hgo q6 <| FIN hgo z6 f06 hK
  rw [if_neg h] at hK
  refine rEqE (fun h => ?_) (fun h => ?_)
  · rw [if_pos h] at hK
    refine rFA0 <| rLd d6 rfl <| rFA0 <| rIAr hb.1 hb.2 <| rLd c6 (hr.cell (by omega)) <| rFA0 <| rSt q6 (by rw [stc_len hgo]; decide) rfl (by simp) ?_
    intro w7 u7
    have q7 := u7.cs
    rw [e16, goP_goP] at q7
    have h7 : St (goP r (rg r c.b)) := hr.put (hr.rg_lt _)
    have f7 : Fr (fun _ => False) w w7 := f06.trans u7.fr fun k hk e => by omega
    have z7 := z6.up u7 (by omega)
    refine ld17 h7 q7 <| rFA0 <| rLd (d6.up u7 (by omega)) rfl <| put_spec h7 ha hnx ?_
    intro W fW
    exact FIN (h7.put hnx) (z7.fr fW id) (f7.more fW) hK
  rw [if_neg h] at hK
  refine rEqE (fun h => ?_) (fun h => ?_)
  · rw [if_pos h] at hK
    refine rFA0 <| rIAr (a := 15) (by decide) (by decide) <| rLd c6 (hr.cell (i := 15) (by decide)) ?_
    exact GO (hr.rg_lt _) hK
  rw [if_neg h] at hK
  refine joinOne (L := [pt b3 0, pt b4 0, pt b6 0, pt q 0, .bool (decide (6 ≤ c.op) && decide (c.op ≤ 17))]) (ds := []) (w := w6) ?_ ?_
  · refine rFA0 <| rLd d6 rfl <| rGe <| rIf (fun h => rFA0 <| rLd d6 rfl <| rLe ⟨by simp [h], rfl, rfl⟩) (fun h => ⟨by simp [h], rfl, rfl⟩)
  intro ρ hρ
  simp only [List.map_cons, List.map_nil, List.cons.injEq, and_true] at hρ
  obtain ⟨e3', e4, e6, e10, e140⟩ := hρ
  unfold F52J4
  rw [e3', e4, e6, e10, e140]
  refine rIf (fun h => ?_) (fun h => ?_)
  · have h : 6 ≤ c.op ∧ c.op ≤ 17 := by simpa using h
    rw [if_pos h] at hK
    have hrk := reck_lt (op := c.op) (hr.rg_lt c.b) (hr.rg_lt c.c)
    refine ⟨_, hSS, ldQ <| rFA0 <| ldC rfl <| rFA0 <| ldC rfl <| rFA0 <| ldC rfl <| rFA0 <| rIAr hb.1 hb.2 <| ldR (by omega) <| rFA0 <| ldC rfl <| rFA0 <| rIAr hcc.1 hcc.2 <| ldR (by omega) ⟨?_, trivial⟩⟩
    refine rreckon_spec h (hr.rg_lt _) (hr.rg_lt _) ⟨hSS, ?_, trivial⟩
    refine put_spec hgo ha hrk ?_
    intro W fW
    have fd : Fr (fun _ => False) w6 W := (Fr.refl _ w6).drew.more fW
    exact ⟨keep fW hSS, FIN (hgo.put hrk) (z6.fr fd id) (f06.more fd) hK, trivial⟩
  · have h : ¬ (6 ≤ c.op ∧ c.op ≤ 17) := by
      simp at h; omega
    rw [if_neg h] at hK
    exact ld17 hgo q6 <| FIN hgo z6 f06 hK

end Go.Proofs.YtmaecpbkbkncgaaDoor
