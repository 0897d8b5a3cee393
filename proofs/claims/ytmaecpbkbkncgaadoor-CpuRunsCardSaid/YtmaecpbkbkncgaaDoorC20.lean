/-
  Cpu, part 20: CpuRuns. Own work.
-/
import Derived.Test.YtmaecpbkbkncgaaDoorC19
import Derived.Test.YtmaecpbkbkncgaaDoorC10
set_option linter.unusedVariables false
set_option linter.unusedSimpArgs false
set_option maxRecDepth 100000
namespace Go.Proofs.YtmaecpbkbkncgaaDoor
open Go Go.V Go.RowKit

theorem rS2B {w : World} {l : List UInt8} {K : Value → World → Prop} (hK : ∀ w' v, Bz w' v l (some w.heap.size) → Fr (fun _ => False) w w' → K v w') : vS2B 5 (str l) w K := by
  intro c hc
  have hs : (⟨l.toArray⟩ : ByteArray).size = l.length := by simp [ByteArray.size]
  refine hK _ _ ⟨⟨c, by rw [hs], by rw [← hs]; exact hc⟩, ?_, fun j b hj => ?_⟩ ((Fr.refl _ w).drew.alloc _)
  · show w.heap.size < (w.heap.push _).size
    rw [Array.size_push]
    omega
  · have hb : (w.drew.alloc (.cells (bytesV (⟨l.toArray⟩ : ByteArray).data.toList ++ List.replicate (c - (⟨l.toArray⟩ : ByteArray).size) (Value.int .u8 0)).toArray 5 (c, c + 1))).heap[w.heap.size]? = some (.cells (bytesV (⟨l.toArray⟩ : ByteArray).data.toList ++ List.replicate (c - (⟨l.toArray⟩ : ByteArray).size) (Value.int .u8 0)).toArray 5 (c, c + 1)) := World.alloc_heap_new _ _
    simp only [World.cell?, hb]
    have hj' : (bytesV l ++ List.replicate (c - l.length) (Value.int .u8 0))[j]? = some (.int .u8 b.toNat) := by
      rw [List.getElem?_append_left (by simp only [bytesV, List.length_map]; exact (List.getElem?_eq_some_iff.1 hj).1)]
      simp [bytesV, hj]
    simpa [ByteArray.size] using hj'

theorem rQ0 {a b c d : Value} {K : Value → Prop} (k : K a) : vExt (.tuple #[a, b, c, d]) 0 K := k
theorem rQ1 {a b c d : Value} {K : Value → Prop} (k : K b) : vExt (.tuple #[a, b, c, d]) 1 K := k
theorem rQ2 {a b c d : Value} {K : Value → Prop} (k : K c) : vExt (.tuple #[a, b, c, d]) 2 K := k
theorem rQ3 {a b c d : Value} {K : Value → Prop} (k : K d) : vExt (.tuple #[a, b, c, d]) 3 K := k

theorem stAt {w : World} {b : Nat} {r : List Nat} {ds : List Value} {K : World → Prop} (hr : St r) (hb : Cs w b ds) (hl : ds.length = 17) (hK : ∀ w', Fr (fun k => k = b) w w' → Cs w' b (stc r) → K w') : vSt (some 17) (pt b 0) (stv r) w K := by
  refine rStN hb (by simp [hr.len]) (by omega) (stc_one r) ?_
  intro w2 u2
  have c2 := u2.cs
  have e2 : spl ds 0 (stc r).toArray.toList = stc r := by simp [spl, hr.len, hl]
  rw [e2] at c2
  exact hK w2 u2.fr c2

theorem memP_min (s : List UInt8) : s.take (min s.length 4096) = memP s := by
  unfold memP
  by_cases h : s.length ≤ 4096
  · rw [Nat.min_eq_left h, List.take_of_length_le (Nat.le_refl _), List.take_of_length_le h]
  · rw [Nat.min_eq_right (by omega)]

/-- CpuRuns -/
theorem law4 {w : World} {s : List UInt8} {r : List Nat} {n : Int} {K : Value → World → Prop} (hT : Tabs w) (hr : St r) (hn1 : -9223372036854775808 ≤ n) (hn2 : n < 9223372036854775808) (hK : ∀ w', Fr (fun _ => False) w w' → K (.bool true) w') : Ret Tryd.prog 4 #[str s, stv r, it n] w K := by
  apply F4_ok
  unfold F4
  refine rBoxA ?_
  intro w1 c1' f1 s1
  have c1 : Cs w1 w.heap.size (stc r) := c1'
  refine lives_spec (hT.fr f1) ?_
  intro w2 f2
  have f02 := f1.more f2
  have c2 := c1.fr f2 id
  refine rNot <| rIfF <| memory_spec ?_
  intro w3 g o3
  have c3 := c2.fr o3.fr id
  have hml := memP_len s
  have n3 : ¬ g.sees w.heap.size := fun h => by have := o3.mine _ h; have := c2.lt; omega
  refine rPNil' <| rIfF <| rMin2 ?_
  generalize hm : (if (300 : Int) < n then (300 : Int) else n) = m
  have hm1 : -9223372036854775808 ≤ m ∧ m < 9223372036854775808 := by rw [← hm]; split <;> omega
  refine ld17 hr c3 ?_
  refine over_spec (hT.fr f02) o3 hr hm1.1 hm1.2 ?_
  intro w4 g4 ev4 o4 hst
  have c4 := c3.fr ev4.fr fun h => n3 (.inl h)
  refine rT0 <| rT1 <| rT2 <| newSt hst ?_
  intro w6 f6 d6 s6
  have o6 := o4.more f6
  have c6 := c4.fr f6 id
  have hb4 : w.heap.size < w4.heap.size := c4.lt
  have hb8 : w4.heap.size < w6.heap.size := d6.lt
  have hgb : g4.b = g.b := ev4.b
  refine ⟨fun vs ds W => ds = [] ∧ ∃ (q : Nat) (v : Value) (bl : Option Nat), vs = [pt g.b 0, pt w4.heap.size 0, it (overP m.toNat 0 r (memP s)).2.2.1, it (overP m.toNat 0 r (memP s)).2.2.2, pt q 0, v, it (overP m.toNat 0 r (memP s)).2.2.1, it (overP m.toNat 0 r (memP s)).2.2.2] ∧
      Fr (fun _ => False) w6 W ∧ Cs W q (stc (overP m.toNat 0 r (memP s)).1) ∧ Bz W v (overP m.toNat 0 r (memP s)).2.1 bl, ?_, ?_⟩
  · refine ⟨fun W => Cs W w.heap.size (stc r), c6.drew, ?_⟩
    have ldS : ∀ {Q : Value → Prop}, Q (stv r) → vLdS (fun W => Cs W w.heap.size (stc r)) (.agg 17) (pt w.heap.size 0) Q := by
      intro Q k
      refine ⟨stc r, stc_len hr, fun W hW j v hj => ?_, k⟩
      rw [addr_add, Nat.zero_add]
      exact Cs.cell hW hj
    refine rLenB <| rMin2 ?_
    have hmi : (if (4096 : Int) < (s.length : Int) then (4096 : Int) else s.length) = ((min s.length 4096 : Nat) : Int) := by split <;> omega
    rw [hmi]
    refine rSlStrHi (by omega) ?_
    rw [memP_min]
    have fd : Fr (fun _ => False) w6 w6.drew := (Fr.refl _ w6).drew
    refine ldS ⟨?_, ?_, trivial⟩
    · refine rS2B ?_
      intro w7 v7 b7 f7
      have c7 := c6.drew.fr f7 id
      have f67 := fd.more f7
      refine ⟨c7, ?_, ?_, trivial⟩
      · refine rover_spec b7 hml hr hm1.2 ?_
        intro w8 v8 bl8 f8 b8 hbl8 hst8
        have f68 := f67.more f8
        refine ⟨c7.fr f8 id, rQ0 <| rQ1 <| rQ2 <| rQ3 ⟨?_, trivial⟩⟩
        refine rAllocT zc25 ?_
        intro w9 h9 f9 s9
        have d9 : Cs w9 w8.heap.size (stc (List.replicate 17 0)) := ⟨_, h9⟩
        refine ⟨(c7.fr f8 id).fr f9 id, ?_, trivial⟩
        refine stAt hst8 d9 (by simp) ?_
        intro w10 f10 d10
        have f910 : Fr (fun _ => False) w8 w10 := f9.trans f10 fun k hk e => by omega
        exact ⟨rfl, _, v8, bl8, rfl, f68.more f910, d10, b8.more f910⟩
      · refine rAllocT zc25 ?_
        intro w9 h9 f9 s9
        have d9 : Cs w9 w7.heap.size (stc (List.replicate 17 0)) := ⟨_, h9⟩
        have c9 := c7.fr f9 id
        refine ⟨c9, ?_, trivial⟩
        refine rover_spec (b7.more f9) hml hr hm1.2 ?_
        intro w8 v8 bl8 f8 b8 hbl8 hst8
        refine ⟨c9.fr f8 id, rQ0 <| rQ1 <| rQ2 <| rQ3 ⟨?_, trivial⟩⟩
        refine stAt hst8 (d9.fr f8 id) (by simp) ?_
        intro w10 f10 d10
        have hw7 : w7.heap.size < w9.heap.size := d9.lt
        have hw6 := f67.size
        have hw9 := f8.size
        have f610 : Fr (fun _ => False) w6 w10 := ((f67.more f9).more f8).trans f10 fun k hk e => by omega
        have hl7 := b7.lt _ rfl
        have hne : ∀ k, bl8 = some k → ¬ k = w7.heap.size := fun k hk e => by
          rcases hbl8 k hk with x | x
          · simp only [Option.some.injEq] at x; omega
          · omega
        exact ⟨rfl, _, v8, bl8, rfl, f610, d10, b8.fr f10 hne⟩
    · refine rAllocT zc25 ?_
      intro w9 h9 f9 s9
      have d9 : Cs w9 w6.drew.heap.size (stc (List.replicate 17 0)) := ⟨_, h9⟩
      have c9 := c6.drew.fr f9 id
      refine ⟨c9, ?_, trivial⟩
      refine rS2B ?_
      intro w7 v7 b7 f7
      have c7 := c9.fr f7 id
      refine ⟨c7, ?_, trivial⟩
      refine rover_spec b7 hml hr hm1.2 ?_
      intro w8 v8 bl8 f8 b8 hbl8 hst8
      refine ⟨c7.fr f8 id, rQ0 <| rQ1 <| rQ2 <| rQ3 ⟨?_, trivial⟩⟩
      refine stAt hst8 ((d9.fr f7 id).fr f8 id) (by simp) ?_
      intro w10 f10 d10
      have hw9 : w6.drew.heap.size < w9.heap.size := d9.lt
      have h0 : w6.drew.heap.size = w6.heap.size := rfl
      have f610 : Fr (fun _ => False) w6 w10 := ((fd.more f9).more (f7.more f8)).trans f10 fun k hk e => by omega
      have hs97 := f7.size
      have hne : ∀ k, bl8 = some k → ¬ k = w6.drew.heap.size := fun k hk e => by
        rcases hbl8 k hk with x | x
        · simp only [Option.some.injEq] at x; omega
        · omega
      exact ⟨rfl, _, v8, bl8, rfl, f610, d10, b8.fr f10 hne⟩
  rintro ρ ds W ⟨rfl, q, v, bl, hρ, fW, cq, bz⟩
  simp only [List.map_cons, List.map_nil, List.cons.injEq, and_true] at hρ
  obtain ⟨e7, e8, e9, e10, e11, e12, e13, e14⟩ := hρ
  unfold F4J1
  rw [e7, e8, e9, e10, e11, e12, e13, e14]
  have d8 := d6.fr fW id
  have oW := o6.more fW
  generalize overP m.toNat 0 r (memP s) = O at *
  refine ⟨fun W => Cs W w4.heap.size (stc O.1) ∧ Cs W q (stc O.1), ⟨d8.drew, cq.drew⟩, ?_⟩
  have ldS : ∀ {b : Nat} {S : World → Prop} {Q : Value → Prop}, (∀ W, S W → Cs W b (stc O.1)) → Q (stv O.1) → vLdS S (.agg 17) (pt b 0) Q := by
    intro b S Q h k
    refine ⟨stc O.1, stc_len hst, fun W hW j v hj => ?_, k⟩
    rw [addr_add, Nat.zero_add]
    exact Cs.cell (h W hW) hj
  have fd : Fr (fun _ => False) W W.drew := (Fr.refl _ W).drew
  have od := oW.more fd
  have fend := (f02.more oW.fr).more fd
  refine ldS (fun W h => h.1) <| ldS (fun W h => h.2) <| rStEq hst hst ?_
  rw [decide_eq_true rfl]
  refine rIfT <| rEq ?_
  rw [beq_self_eq_true]
  refine rIfT <| rEq ?_
  rw [beq_self_eq_true]
  rw [← hgb]
  refine rIfT ⟨?_, ?_, trivial⟩
  · refine all_spec od ?_
    intro w13 f13
    refine ⟨⟨d8.drew.fr f13 id, cq.drew.fr f13 id⟩, ?_, trivial⟩
    refine (bz.more (fd.more f13)).toStr ⟨⟨d8.drew.fr f13 id, cq.drew.fr f13 id⟩, rSEq ?_⟩
    rw [beq_self_eq_true]
    exact hK w13 (fend.more f13)
  · refine (bz.more fd).toStr ⟨⟨d8.drew, cq.drew⟩, ?_, trivial⟩
    refine all_spec od ?_
    intro w13 f13
    refine ⟨⟨d8.drew.fr f13 id, cq.drew.fr f13 id⟩, rSEq ?_⟩
    rw [beq_self_eq_true]
    exact hK w13 (fend.more f13)

end Go.Proofs.YtmaecpbkbkncgaaDoor
