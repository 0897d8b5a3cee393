/-
  Pages, part 26: slices whose elements are one cell; Copy. Own work.
-/
import Derived.Test.YtdaopbkggmlopaaP25
set_option linter.unusedVariables false
set_option linter.unusedSimpArgs false
namespace Go.Proofs.Ytdaopbkggmlopaa
open Go Go.V Go.RowKit

/-- t: slices of e, one cell an element -/
structure E1 (t e : TypeId) (z : Value) : Prop where
  ht : Try.prog.underlying t = some (.slice e)
  hi : ∃ i, Try.prog.info? e = some i ∧ i.size = 1 ∧ i.bytes ≤ 32
  hz : zc Try.prog e = some #[z]
  hu : srcK Try.prog t = true

theorem infoOf {e n : Nat} (h : (Try.prog.info? e).map (fun i => (i.size, Nat.ble i.bytes 32)) = some (n, true)) : ∃ i, Try.prog.info? e = some i ∧ i.size = n ∧ i.bytes ≤ 32 := by
  obtain ⟨i, h1, h2⟩ := Option.map_eq_some_iff.1 h
  simp only [Prod.mk.injEq] at h2
  exact ⟨i, h1, h2.1, Nat.le_of_ble_eq_true h2.2⟩

theorem e39 : E1 39 24 (.pointer none) := ⟨by kernel_rfl, infoOf (by kernel_rfl), by kernel_rfl, by kernel_rfl⟩
theorem e40 : E1 40 38 (.slice none 0 0) := ⟨by kernel_rfl, infoOf (by kernel_rfl), by kernel_rfl, by kernel_rfl⟩
theorem e41 : E1 41 9 (.string ⟨#[]⟩) := ⟨by kernel_rfl, infoOf (by kernel_rfl), by kernel_rfl, by kernel_rfl⟩
theorem e57 : E1 57 66 (.pointer none) := ⟨by kernel_rfl, infoOf (by kernel_rfl), by kernel_rfl, by kernel_rfl⟩
theorem e58 : E1 58 4 (.bool false) := ⟨by kernel_rfl, infoOf (by kernel_rfl), by kernel_rfl, by kernel_rfl⟩

section
variable {t e : TypeId} {z : Value} (E : E1 t e z) {w : World} {K : Value → World → Prop}

include E

theorem E1.build0 (hK : ∀ w', Row w' (sv w.heap.size 0 0) [] (some w.heap.size) → Fr (fun _ => False) w w' → w'.heap.size = w.heap.size + 1 → K (sv w.heap.size 0 0) w') : vBuildSlice Try.prog t 0 [] w K := by
  obtain ⟨i, hi1, hi2, hi3⟩ := E.hi
  unfold vBuildSlice
  simp only [E.ht, E.hz, hi1, hi2]
  refine ⟨by decide, rfl, ?_⟩
  exact hK _ ⟨[], rfl, Cs.new _ [] e⟩ ((Fr.refl _ w).alloc _) (by simp)

theorem E1.build1 {x : Value} (hx : x.cells = #[x]) (hK : ∀ w', Row w' (sv w.heap.size 1 1) [x] (some w.heap.size) → Fr (fun _ => False) w w' → w'.heap.size = w.heap.size + 1 → K (sv w.heap.size 1 1) w') : vBuildSlice Try.prog t 1 [(0, x)] w K := by
  obtain ⟨i, hi1, hi2, hi3⟩ := E.hi
  unfold vBuildSlice
  simp only [E.ht, E.hz, hi1, hi2]
  refine ⟨by decide, rfl, ?_⟩
  simp only [fillV, slPlace, Nat.blt, Nat.ble, cond_true]
  refine ⟨by rw [hx]; rfl, ?_⟩
  simp only [hx, spl, repZ]
  exact hK _ ⟨[], rfl, Cs.new _ [x] e⟩ ((Fr.refl _ w).alloc _) (by simp)

theorem E1.mks {n : Nat} {kd1 kd2 : IntKind} (hn : n ≤ 4194304) (hK : ∀ w', Row w' (sv w.heap.size n n) (List.replicate n z) (some w.heap.size) → Fr (fun _ => False) w w' → w'.heap.size = w.heap.size + 1 → K (sv w.heap.size n n) w') :
    vMakeSlice Try.prog t (.int kd1 n) (.int kd2 n) w K := by
  obtain ⟨i, hi1, hi2, hi3⟩ := E.hi
  unfold vMakeSlice
  simp only [E.ht, E.hz, hi1]
  have hb : n * i.bytes ≤ 4194304 * 32 := Nat.mul_le_mul hn hi3
  refine ⟨by omega, by omega, by omega, by rw [← Int.natCast_mul]; omega, hi2.symm, ?_⟩
  rw [Int.toNat_natCast, repZ_one]
  refine hK _ ⟨[], by simp, ?_⟩ ((Fr.refl _ w).alloc _) (by simp)
  rw [List.append_nil]
  exact Cs.new _ _ e

theorem E1.app {s x : Value} {xs ys : List Value} {bl : Option Nat} (hs : Row w s xs bl) (hx : Src w x ys) (hys : ∀ y ∈ ys, y.oneCell' = true) (hb : xs.length + ys.length ≤ 4194304)
    (hK : ∀ w' v' bl', Row w' v' (xs ++ ys) bl' → Fr (fun k => bl = some k) w w' → (∀ k, bl' = some k → bl = some k ∨ w.heap.size ≤ k) → (bl ≠ none → bl' ≠ none) → K v' w') : vAppend Try.prog t t s x w K := by
  obtain ⟨i, hi, his, hib⟩ := E.hi
  obtain ⟨T, rest, hrow⟩ := Row.rowT hs
  have hbb : (xs.length + ys.length) * i.bytes ≤ 4194304 * 32 := Nat.mul_le_mul hb hib
  refine rApp E.ht hi E.hz his E.hu hrow hx hys (by omega) (by omega) ?_
  intro w' v' rest' bl' T' h' _ fr hbl _ hne
  exact hK w' v' bl' h'.row fr hbl hne

theorem E1.clear {s : Value} {xs : List Value} {bl : Option Nat} (hz : z.oneCell' = true) (hs : Row w s xs bl) (hK : ∀ w', Row w' s (List.replicate xs.length z) bl → Fr (fun k => bl = some k) w w' → w'.heap.size = w.heap.size → K (.tuple #[]) w') : vClear Try.prog t s w K := by
  unfold vClear
  simp only [E.ht, E.hz]
  cases bl with
  | none =>
    obtain ⟨rfl, rfl⟩ := hs
    exact hK w ⟨rfl, rfl⟩ (Fr.refl _ _) rfl
  | some l =>
    obtain ⟨r, rfl, hc⟩ := hs
    refine ⟨fun e0 => ?_, fun _ => ?_⟩
    · have e0 : xs = [] := List.length_eq_zero_iff.1 e0
      subst e0
      exact hK w ⟨r, rfl, hc⟩ (Fr.refl _ _) rfl
    · obtain ⟨T, h⟩ := hc
      unfold stN
      simp only [h]
      refine ⟨trivial, by simp [repZ_one], by simp, ?_, ?_⟩
      · intro x hx
        simp [repZ_one] at hx
        rw [hx.2]; exact hz
      · have u : Up w l (spl (xs ++ r) 0 (repZ [z] xs.length)) (w.putObj l (.cells (spl (xs ++ r) 0 (repZ [z] xs.length)).toArray T (0, 0))) := Up.of_put h
        refine hK _ ⟨r, by simp, ?_⟩ (u.fr.mono fun k _ e => by rw [e]) u.size
        have : spl (xs ++ r) 0 (repZ [z] xs.length) = List.replicate xs.length z ++ r := by simp [spl, repZ_one]
        rw [← this]; exact u.cs

end

theorem rowLt {w : World} {v : Value} {xs : List Value} {q : Nat} (h : Row w v xs (some q)) : q < w.heap.size := let ⟨_, _, h⟩ := h; h.lt

theorem Row.src {w : World} {v : Value} {xs : List Value} {bl : Option Nat} (h : Row w v xs bl) : Src w v xs := by
  cases bl with
  | none => obtain ⟨rfl, rfl⟩ := h; exact src_nil
  | some q =>
    obtain ⟨r, rfl, h2⟩ := h
    have := src_slice (off := 0) (len := xs.length) (c := xs.length + r.length) h2 (by simp)
    simpa using this

/-- the same pages, none of them one's own -/
def Gh.shut (g : Gh) : Gh := { g with ow := List.replicate g.ow.length false }

theorem shut_foot {g : Gh} {k : Nat} (h : g.shut.foot k) : g.foot k := by
  rcases h with h | h | h | ⟨i, h, _⟩
  · exact .inl h
  · exact .inr (.inl h)
  · exact .inr (.inr (.inl h))
  · simp [Gh.shut, List.getElem?_replicate] at h

theorem By.shut {w w1 : World} {g : Gh} {n : Nat} {c : Nat → UInt8} (h : By w g n c) {lv ov : Value} (hd : Cs w g.b [it n, lv, ov]) (hl : Row w lv (g.ps.map (pt · 0)) g.lb) (fr : Fr (fun k => g.ob = some k) w w1) (ho : Row w1 ov (List.replicate g.ow.length (.bool false)) g.ob) : By w1 g.shut n c := by
  have hh := h
  obtain ⟨_, h4, h5, h6, h7, h8, h9⟩ := h
  refine ⟨⟨lv, ov, hd.fr fr (fun e => (h7 _ e).1 rfl), hl.fr fr (fun k hk e => (h6 k hk).2.1 e), ?_⟩, fun i q hq => (h4 i q hq).fr fr (fun e => (h7 q e).2 (List.mem_of_getElem? hq)), ?_, h6, h7, h8, ?_⟩
  · show Row w1 ov ((List.replicate g.ow.length false).map .bool) g.ob
    rw [List.map_replicate]; exact ho
  · show (List.replicate g.ow.length false).length = _
    rw [List.length_replicate]; exact h5
  · intro i j q hi
    simp [Gh.shut, List.getElem?_replicate] at hi

theorem b60' : (fun (n : Int) (a1 : Option Addr) (n1 c1 : Nat) (a2 : Option Addr) (n2 c2 : Nat) (K : Value → Prop) => vBuild Try.prog 60 [(0, it n), (1, .slice a1 n1 c1), (2, .slice a2 n2 c2)] K) =
    fun n a1 n1 c1 a2 n2 c2 K => ((1 : Nat) = 1 ∧ (1 : Nat) = 1 ∧ (1 : Nat) = 1 ∧ K (.agg #[it n, .slice a1 n1 c1, .slice a2 n2 c2])) := by kernel_rfl

theorem build60 {n : Int} {v1 v2 : Value} {xs ys : List Value} {W : World} {b1 b2 : Option Nat} {K : Value → Prop} (h1 : Row W v1 xs b1) (h2 : Row W v2 ys b2) (k : K (.agg #[it n, v1, v2])) : vBuild Try.prog 60 [(0, it n), (1, v1), (2, v2)] K := by
  obtain ⟨_, _, a1, c1, rfl⟩ := h1.val
  obtain ⟨_, _, a2, c2, rfl⟩ := h2.val
  have := congrFun (congrFun (congrFun (congrFun (congrFun (congrFun (congrFun (congrFun b60' n) a1) xs.length) c1) a2) ys.length) c2) K
  simp only at this
  rw [this]; exact ⟨trivial, trivial, trivial, k⟩

theorem rBoxA {e : TypeId} {cs : Array Value} {w : World} {K : Value → World → Prop} (k : ∀ w', Cs w' w.heap.size cs.toList → Fr (fun _ => False) w w' → w'.heap.size = w.heap.size + 1 → K (pt w.heap.size 0) w') : vBox e (.agg cs) w K :=
  k _ (Cs.new' w cs e) ((Fr.refl _ w).alloc _) (by simp)

/-- Copy -/
theorem copy15 {w0 w : World} {g : Gh} {n : Nat} {c : Nat → UInt8} {K : Value → World → Prop} (h : Own w0 w g n c)
    (hK : ∀ w' g', Own w0 w' g.shut n c → Own w0 w' g' n c → Fr (fun k => g.ob = some k) w w' → (∀ k, g'.foot k → w.heap.size ≤ k) → (∀ k, g'.sees k → g.sees k ∨ w.heap.size ≤ k) → K (pt g'.b 0) w') : CallK Try.prog 15 #[pt g.b 0] w K := by
  apply Ret.call
  apply F15_ok
  unfold F15
  have hby := h.by'
  have hlt := hby.lt
  obtain ⟨lv, ov, hd, hl, ho⟩ := hby.hd
  have hlen := h.len
  have hle := h.le
  have how := hby.ow
  refine rPNil' <| rIfF <| rNil <| rFA0 <| rLd hd rfl <| e58.clear rfl ho ?_
  intro w1 ho1 f1 s1
  rw [List.length_map] at ho1
  have hb1 : By w1 g.shut n c := hby.shut hd hl f1 ho1
  have hd1 : Cs w1 g.b [it n, lv, ov] := hd.fr f1 (fun e => (hby.d2 _ e).1 rfl)
  have hl1 : Row w1 lv (g.ps.map (pt · 0)) g.lb := hl.fr f1 (fun k hk e => (hby.d1 k hk).2.1 e)
  refine ⟨fun W => Cs W g.b [it n, lv, ov], hd1, ?_⟩
  have hS : ∀ (v : Value) (o : Nat), ([it n, lv, ov] : List Value)[o]? = some v → ∀ W, Cs W g.b [it n, lv, ov] → ∃ cs, Cs W g.b cs ∧ cs[o]? = some v := fun v o hv W hW => ⟨_, hW, hv⟩
  refine rNil <| rFA0 <| rLdS (it n) (hS _ 0 rfl) <| rNil <| rFA0 <| rLdS lv (hS _ 1 rfl) <| rNil <| rFA0 <| rLdS lv (hS _ 1 rfl) ?_
  have hll : ∀ {K : Value → Prop}, K (it g.ps.length) → vLen (.slice 1) lv K := by
    intro K k
    obtain ⟨_, _, a, cp, rfl⟩ := hl.val
    rw [List.length_map]
    exact k
  refine hll ?_
  have fin : ∀ (W : World) (v1 v2 : Value) (q1 q2 : Nat), Fr (fun _ => False) w1 W → Row W v1 (g.ps.map (pt · 0)) (some q1) → Row W v2 (List.replicate g.ps.length (.bool false)) (some q2) → w.heap.size ≤ q1 → w.heap.size ≤ q2 → q1 ≠ q2 →
      vBuild Try.prog 60 [(0, it n), (1, v1), (2, v2)] fun v25 => (vBox 60 v25 W fun v26 w_5 => Cs w_5 g.b [it n, lv, ov] ∧ K v26 w_5) ∧ True := by
    intro W v1 v2 q1 q2 f h1 h2 hq1 hq2 hne
    refine build60 h1 h2 ⟨rBoxA ?_, trivial⟩
    intro W5 c5 f5 s5
    refine ⟨hd1.fr (f.more f5) id, ?_⟩
    have hsz := f.size
    have hsz1 : w.heap.size ≤ w1.heap.size := f1.size
    have r1 := rowLt h1
    have r2 := rowLt h2
    have hsh : Own w0 W5 g.shut n c := by
      refine ⟨(h.fr.trans (f1.trans (f.more f5) fun _ _ => False.elim) fun x hx e => ?_), ?_, hb1.fr (f.more f5) fun _ _ => id, hlen, hle, h.zero⟩
      · have := h.mine x (.inl (.inr (.inr (.inl e)))); omega
      · rintro k (hk | hk)
        · exact h.mine k (.inl (shut_foot hk))
        · exact h.mine k (.inr hk)
    have hp : ∀ k ∈ g.ps, k < w.heap.size := fun k hk => hlt k (.inr hk)
    have hby5 : By W5 ⟨W.heap.size, g.ps, List.replicate g.ps.length false, some q1, some q2⟩ n c := by
      refine ⟨⟨v1, v2, c5, h1.fr f5 (fun _ _ => id), ?_⟩, hsh.by'.pgs, by simp, ?_, ?_, ?_, ?_⟩
      · show Row W5 v2 ((List.replicate g.ps.length false).map .bool) (some q2)
        rw [List.map_replicate]
        exact h2.fr f5 (fun _ _ => id)
      · rintro k hk
        simp only [Option.some.injEq] at hk
        subst hk
        refine ⟨by show q1 ≠ W.heap.size; omega, by simpa using Ne.symm hne, fun hm => by have := hp _ hm; omega⟩
      · rintro k hk
        simp only [Option.some.injEq] at hk
        subst hk
        exact ⟨by show q2 ≠ W.heap.size; omega, fun hm => by have := hp _ hm; omega⟩
      · intro hm
        have := hp _ hm; simp only at this; omega
      · intro i j q hi
        simp [List.getElem?_replicate] at hi
    have hfoot : ∀ k, Gh.foot ⟨W.heap.size, g.ps, List.replicate g.ps.length false, some q1, some q2⟩ k → w.heap.size ≤ k := by
      rintro k (hk | hk | hk | ⟨i, hk, _⟩)
      · simp only at hk; omega
      · simp only [Option.some.injEq] at hk; omega
      · simp only [Option.some.injEq] at hk; omega
      · simp [List.getElem?_replicate] at hk
    have hsz0 := h.fr.size
    refine hK W5 _ hsh ⟨hsh.fr, ?_, hby5, hlen, hle, h.zero⟩ (f1.trans (f.more f5) fun _ _ => False.elim) hfoot ?_
    · rintro k (hk | hk)
      · have := hfoot k hk; omega
      · exact h.mine k (.inr hk)
    · rintro k (hk | hk)
      · exact .inr (hfoot k hk)
      · exact .inl (.inr hk)
  have hsz1 : w.heap.size ≤ w1.heap.size := f1.size
  have some_of : ∀ {bl' : Option Nat} {q m : Nat}, (some q ≠ none → bl' ≠ none) → (∀ k, bl' = some k → some q = some k ∨ m ≤ k) → w.heap.size ≤ q → w.heap.size ≤ m → ∃ q', bl' = some q' ∧ w.heap.size ≤ q' ∧ (q' = q ∨ m ≤ q') := by
    intro bl' q m hne hb hq hm
    obtain ⟨q', rfl⟩ := Option.ne_none_iff_exists'.1 (hne (by simp))
    refine ⟨q', rfl, ?_⟩
    rcases hb q' rfl with e | e
    · simp at e; omega
    · omega
  have hsmall : (([] : List Value).length + (g.ps.map (pt · 0)).length) ≤ 4194304 := by simp; omega
  have hone : ∀ y ∈ g.ps.map (fun q => pt q 0), y.oneCell' = true := by
    intro y hy
    obtain ⟨q, _, rfl⟩ := List.mem_map.1 hy
    rfl
  have w1d : (Fr (fun _ => False) w1 w1.drew) := (Fr.refl _ w1).drew
  refine ⟨?_, ?_, trivial⟩
  · refine e57.build0 ?_
    intro w2 r2 f2 s2
    have s2 : w2.heap.size = w1.heap.size + 1 := s2
    have f12 := w1d.more f2
    refine ⟨hd1.fr f12 id, ?_, ?_, trivial⟩
    · refine e57.app r2 (hl1.fr f12 (fun _ _ => id)).src hone hsmall ?_
      intro w3 v3 bl3 r3 f3 hb3 hne3
      have f3' : Fr (fun _ => False) w1 w3 := f12.trans f3 (fun x hx e => by simp only [Option.some.injEq] at e; have : w1.drew.heap.size = w1.heap.size := rfl; omega)
      obtain ⟨q3, rfl, hq3, hq3'⟩ := some_of hne3 hb3 (show w.heap.size ≤ w1.heap.size from hsz1) (by omega)
      refine ⟨hd1.fr f3' id, ?_, trivial⟩
      refine e58.mks (by omega) ?_
      intro w4 r4 f4 s4
      refine ⟨hd1.fr (f3'.more f4) id, ?_⟩
      rw [List.nil_append] at r3
      have l3 := rowLt r3
      exact fin w4 _ _ q3 w3.heap.size (f3'.more f4) (r3.fr f4 fun _ _ => id) r4 hq3 (by have := f3'.size; omega) (by omega)
    · refine e58.mks (by omega) ?_
      intro w3 r3 f3 s3
      have f13 := f12.more f3
      refine ⟨hd1.fr f13 id, ?_, trivial⟩
      refine e57.app (r2.fr f3 fun _ _ => id) (hl1.fr f13 (fun _ _ => id)).src hone hsmall ?_
      intro w4 v4 bl4 r4 f4 hb4 hne4
      have hz : w1.drew.heap.size = w1.heap.size := rfl
      have f4' : Fr (fun _ => False) w1 w4 := f13.trans f4 (fun x hx e => by simp only [Option.some.injEq] at e; omega)
      obtain ⟨q4, rfl, hq4, hq4'⟩ := some_of hne4 hb4 (show w.heap.size ≤ w1.heap.size from hsz1) (show w.heap.size ≤ w3.heap.size by omega)
      refine ⟨hd1.fr f4' id, ?_⟩
      rw [List.nil_append] at r4
      have hne : q4 ≠ w2.heap.size := by rcases hq4' with e | e <;> omega
      exact fin w4 _ _ q4 w2.heap.size f4' r4 (r3.fr f4 fun k hk e => by simp only [Option.some.injEq] at hk e; omega) hq4 (by omega) hne
  · refine e58.mks (by omega) ?_
    intro w2 r2 f2 s2
    have hz : w1.drew.heap.size = w1.heap.size := rfl
    have f12 := w1d.more f2
    refine ⟨hd1.fr f12 id, ?_, trivial⟩
    refine e57.build0 ?_
    intro w3 r3 f3 s3
    have f13 := f12.more f3
    refine ⟨hd1.fr f13 id, ?_, trivial⟩
    refine e57.app r3 (hl1.fr f13 (fun _ _ => id)).src hone hsmall ?_
    intro w4 v4 bl4 r4 f4 hb4 hne4
    have f4' : Fr (fun _ => False) w1 w4 := f13.trans f4 (fun x hx e => by simp only [Option.some.injEq] at e; omega)
    obtain ⟨q4, rfl, hq4, hq4'⟩ := some_of hne4 hb4 (show w.heap.size ≤ w2.heap.size by omega) (show w.heap.size ≤ w3.heap.size by omega)
    refine ⟨hd1.fr f4' id, ?_⟩
    rw [List.nil_append] at r4
    have hne : q4 ≠ w1.heap.size := by rcases hq4' with e | e <;> omega
    refine fin w4 _ _ q4 w1.drew.heap.size f4' r4 ((r2.fr f3 fun _ _ => id).fr f4 fun k hk e => by simp only [Option.some.injEq] at hk e; omega) hq4 (by omega) (by omega)

end Go.Proofs.Ytdaopbkggmlopaa
