/-
  Pages, part 10: Resize: its loop's end, its loop. Own work.
-/
import Derived.Test.YtmaecpbkbkncgaaDoorP9
set_option linter.unusedVariables false
set_option linter.unusedSimpArgs false
set_option maxRecDepth 100000
namespace Go.Proofs.YtmaecpbkbkncgaaDoor
open Go Go.V Go.RowKit

theorem row_cut {w : World} {v : Value} {xs : List Value} {bl : Option Nat} {m : Nat} {K : Value → Prop} (h : Row w v xs bl) (hm : m ≤ xs.length) (hK : ∀ v', Row w v' (xs.take m) bl → K v') : vSlice (.slice 1) v none (some (it m)) K := by
  have ht : (xs.take m).length = m := by simp; omega
  cases bl with
  | none =>
    obtain ⟨rfl, rfl⟩ := h
    have : m = 0 := by simpa using hm
    subst this
    exact ⟨by omega, by simp, hK _ ⟨rfl, by simp⟩⟩
  | some l =>
    obtain ⟨rest, rfl, hl⟩ := h
    refine ⟨by omega, by omega, ?_⟩
    show K _
    have e : (if xs.length + rest.length = 0 then some (⟨l, 0, none⟩ : Addr) else (some (⟨l, 0, none⟩ : Addr)).map (·.add (0 * 1))) = some ⟨l, 0, none⟩ := by
      split
      · rfl
      · simp [Addr.add]
    rw [e]
    refine hK _ ⟨xs.drop m ++ rest, ?_, ?_⟩
    · rw [ht]
      have e2 : m + (xs.drop m ++ rest).length = xs.length + rest.length := by simp; omega
      rw [e2]
      simp
    · rw [← List.append_assoc, List.take_append_drop]; exact hl

theorem By.cut {w w' : World} {g : Gh} {n m : Nat} {c : Nat → UInt8} {lv ov : Value} (h : By w g n c) (hl : Row w lv ((g.ps.map (pt · 0)).take m) g.lb) (ho : Row w ov ((g.ow.map .bool).take m) g.ob) (hu : Up w g.b [it n, lv, ov] w') :
    By w' { g with ps := g.ps.take m, ow := g.ow.take m } n c ∧ Evo w g w' { g with ps := g.ps.take m, ow := g.ow.take m } := by
  obtain ⟨⟨lv0, ov0, h1, h2, h3⟩, h4, h5, h6, h7, h8, h9⟩ := h
  have hsub : ∀ k, k ∈ g.ps.take m → k ∈ g.ps := fun k hk => List.mem_of_mem_take hk
  have hget : ∀ {α : Type} (l : List α) (i : Nat) (x : α), (l.take m)[i]? = some x → l[i]? = some x := fun l i x hx => by
    rw [List.getElem?_take] at hx
    split at hx
    · exact hx
    · cases hx
  refine ⟨⟨⟨lv, ov, hu.cs, ?_, ?_⟩, ?_, by simp [h5], ?_, ?_, fun hm => h8 (hsub _ hm), ?_⟩, ⟨?_, rfl, ?_, ?_⟩⟩
  · simp only [List.map_take]; exact hl.fr hu.fr (fun k hk => (h6 k hk).1)
  · simp only [List.map_take]; exact ho.fr hu.fr (fun k hk => (h7 k hk).1)
  · intro i q hq
    have hq := hget _ _ _ hq
    exact (h4 i q hq).up hu (fun e => h8 (e ▸ List.mem_of_getElem? hq))
  · exact fun k hk => ⟨(h6 k hk).1, (h6 k hk).2.1, fun hm => (h6 k hk).2.2 (hsub _ hm)⟩
  · exact fun k hk => ⟨(h7 k hk).1, fun hm => (h7 k hk).2 (hsub _ hm)⟩
  · exact fun i j q hi hi2 hj2 => h9 i j q (hget _ _ _ hi) (hget _ _ _ hi2) (hget _ _ _ hj2)
  · exact hu.fr.mono fun x _ e => .inl e
  · rintro k (hk | hk | hk | ⟨i, hi, hi2⟩)
    · exact .inl (.inl hk)
    · exact .inl (.inr (.inl hk))
    · exact .inl (.inr (.inr (.inl hk)))
    · exact .inl (.inr (.inr (.inr ⟨i, hget _ _ _ hi, hget _ _ _ hi2⟩)))
  · exact fun k hk => .inl (.inr (hsub k hk))

theorem end_ok {w : World} {g : Gh} {n v2 : Nat} {c : Nat → UInt8} {K : Value → World → Prop} {ρ : Env} {ds : List Nat} {ag1 : List Value → List Nat → World → Prop} (h : By w g n c) (hn : n ≤ 4096) (e2 : ρ 2 = pt v2 0) (hv2 : Cs w v2 [pt g.b 0]) (nv : ¬ g.sees v2)
    (hge : (n + 63) / 64 ≤ g.ps.length) (hlen : g.ps.length < 1000000)
    (hK : ∀ w' g', By w' g' n c → Evo w g w' g' → g'.ps.length = (n + 63) / 64 → leaveV ds w' fun W => K (it 0) W) : F22L1 K ρ ds w ag1 := by
  obtain ⟨lv, ov, hd, hl, ho⟩ := h.hd
  obtain ⟨_, _, la, lc, hlv⟩ := hl.val
  unfold F22L1
  rw [e2]
  refine ⟨fun V => Cs V v2 [pt g.b 0] ∧ Cs V g.b [it n, lv, ov], ⟨hv2, hd⟩, ?_⟩
  refine rLdS _ (fun V hV => ⟨_, hV.1, rfl⟩) <| rNil <| rFA0 <| rLdS lv (fun V hV => ⟨_, hV.2, rfl⟩) ?_
  have hlen' : vLen (.slice 1) lv = vLen (.slice 1) (.slice la g.ps.length lc) := by rw [hlv]; simp
  rw [hlen']
  refine rLenS <| rLdS _ (fun V hV => ⟨_, hV.1, rfl⟩) ⟨?_, trivial⟩
  refine (pages_spec (w := w.drew) hd hn ?_).call
  refine ⟨⟨hv2, hd⟩, ?_⟩
  refine rLt <| rIf (fun hf => absurd hf (by simp; omega)) (fun _ => ?_)
  refine ⟨fun V => Cs V v2 [pt g.b 0] ∧ Cs V g.b [it n, lv, ov], fun V => Cs V v2 [pt g.b 0], ⟨hv2, hd⟩, ?_⟩
  refine rLdS (pt g.b 0) (fun V hV => ⟨_, hV.1, rfl⟩) <| rLdS (pt g.b 0) (fun V hV => ⟨_, hV.elim (·.1) id, rfl⟩) <| rLdS (pt g.b 0) (fun V hV => ⟨_, hV.1, rfl⟩) ?_
  refine rNil <| rFA0 <| rLdS lv (fun V hV => ⟨_, hV.2, rfl⟩) <| rLdS (pt g.b 0) (fun V hV => ⟨_, hV.1, rfl⟩) <| rLdS (pt g.b 0) (fun V hV => ⟨_, hV.elim (·.1) id, rfl⟩) ?_
  refine rNil <| rFA0 <| rLdS ov (fun V hV => ⟨_, hV.2, rfl⟩) <| rLdS (pt g.b 0) (fun V hV => ⟨_, hV.elim (·.1) id, rfl⟩) ?_
  refine ⟨?_, trivial⟩
  generalize hw0 : w.drew.drew = w0
  have f0 : Fr (fun _ => False) w w0 := by rw [← hw0]; exact (Fr.refl _ w).drew.drew
  have hv0 := hv2.fr f0 id
  have hd0 := hd.fr f0 id
  have hl0 := hl.fr f0 (fun _ _ => id)
  have ho0 := ho.fr f0 (fun _ _ => id)
  refine (pages_spec hd0 hn ?_).call
  refine ⟨⟨hv0, hd0⟩, row_cut hl0 (by simpa using hge) ?_⟩
  intro lv' hl1
  refine ⟨?_, trivial⟩
  refine (pages_spec hd0 hn ?_).call
  refine ⟨⟨hv0, hd0⟩, row_cut ho0 (by rw [List.length_map, h.ow]; exact hge) ?_⟩
  intro ov' ho1
  refine stores_ok (T := fun V => Cs V v2 [pt g.b 0]) (A := fun W => leaveV ds W fun W => K (it 0) W) hd0 hl1.val.1 hl1.val.2.1 ho1.val.1 ho1.val.2.1 (fun V3 f3 => hv0.fr f3 (fun e => nv (e ▸ .inl (.inl rfl)))) ?_
  intro W u
  obtain ⟨k1, k2⟩ := (h.fr f0 (fun _ _ => id)).cut hl1 ho1 u
  exact hK W _ k1 (Evo.before f0 k2 (fun _ _ => False.elim)) (by simp; omega)

/-- the list's length, by its header -/
def lenAt (w : World) (b : Nat) : Nat :=
  match w.cell? ⟨b, 1, none⟩ with
  | some (.slice _ n _) => n
  | _ => 0

theorem By.lenAt {w : World} {g : Gh} {n : Nat} {c : Nat → UInt8} (h : By w g n c) : lenAt w g.b = g.ps.length := by
  obtain ⟨lv, ov, hd, hl, ho⟩ := h.hd
  obtain ⟨_, _, a, cc, hv⟩ := hl.val
  unfold YtmaecpbkbkncgaaDoor.lenAt
  rw [Cs.cell hd (v := lv) rfl, hv]
  simp

theorem loop_ok {w : World} {g : Gh} {n v2 : Nat} {c : Nat → UInt8} {K : Value → World → Prop} {ds : List Nat} (h : By w g n c) (hn : n ≤ 4096) (hv2 : Cs w v2 [pt g.b 0]) (nv : ¬ g.sees v2) (hlen : g.ps.length < 1000000)
    (hc : ∀ i, 64 * g.ps.length ≤ i → c i = 0) (hds : ∀ D ∈ ds, w.heap[D]? = some (.deferred (some [])) ∧ ¬ g.sees D)
    (hK : ∀ w' g', By w' g' n c → Evo w g w' g' → g'.ps.length = (n + 63) / 64 → (∀ D ∈ ds, w'.heap[D]? = some (.deferred (some [])) ∧ ¬ g'.sees D) → leaveV ds w' fun W => K (it 0) W) : loopF [2] [pt v2 0] ds w (F22L1 K) := by
  have keep : ∀ {W W' : World} {g1 g2 : Gh} {k : Nat}, Evo W g1 W' g2 → ¬ g1.sees k → k < W.heap.size → ¬ g2.sees k := fun evo h1 h2 hs => by
    rcases hs with hs | hs
    · rcases evo.foot _ hs with e | e
      · exact h1 (.inl e)
      · omega
    · rcases evo.sees _ hs with e | e
      · exact h1 e
      · omega
  refine ⟨fun vs ds' W => vs = [pt v2 0] ∧ ds' = ds ∧ ∃ g1, By W g1 n c ∧ Evo w g W g1 ∧ Cs W v2 [pt g.b 0] ∧ ¬ g1.sees v2 ∧ g1.ps.length < 1000000 ∧ (∀ i, 64 * g1.ps.length ≤ i → c i = 0) ∧ (∀ D ∈ ds, W.heap[D]? = some (.deferred (some [])) ∧ ¬ g1.sees D),
    fun _ _ W => (n + 63) / 64 - lenAt W g.b, ⟨rfl, rfl, g, h, Evo.refl _ _, hv2, nv, hlen, hc, hds⟩, ?_⟩
  rintro ρ ds' W ⟨hρ, rfl, g1, hby, evo, hv, hnv, hl1, hc1, hds1⟩
  simp only [List.map_cons, List.map_nil, List.cons.injEq, and_true] at hρ
  have hv' : Cs W v2 [pt g1.b 0] := by rw [evo.b]; exact hv
  by_cases hlt : g1.ps.length < (n + 63) / 64
  · refine round_ok hby hn hρ hv' hnv hlt (fun i hi _ => hc1 i hi) ?_
    intro W' g2 hby2 evo2 hl2
    have hnf : ∀ k, ¬ g1.sees k → ¬ g1.foot k := fun k h h2 => h (.inl h2)
    refine ⟨⟨rfl, rfl, g2, hby2, evo.trans evo2, hv.fr evo2.fr (hnf _ hnv), keep evo2 hnv hv.lt, by omega, fun i hi => hc1 i (by omega), fun D hD => ?_⟩, ?_⟩
    · obtain ⟨k1, k2⟩ := hds1 D hD
      exact ⟨evo2.fr.get k1 (hnf _ k2), keep evo2 k2 (lt_of_blk k1)⟩
    · have e1 := hby.lenAt
      have e2 := hby2.lenAt
      rw [evo.b] at e1
      rw [evo2.b, evo.b] at e2
      show (n + 63) / 64 - YtmaecpbkbkncgaaDoor.lenAt W' g.b < (n + 63) / 64 - YtmaecpbkbkncgaaDoor.lenAt W g.b
      rw [e1, e2]
      omega
  · refine end_ok hby hn hρ hv' hnv (by omega) hl1 ?_
    intro W' g2 hby2 evo2 hl2
    have hnf : ∀ k, ¬ g1.sees k → ¬ g1.foot k := fun k h h2 => h (.inl h2)
    refine hK W' g2 hby2 (evo.trans evo2) hl2 (fun D hD => ?_)
    obtain ⟨k1, k2⟩ := hds1 D hD
    exact ⟨evo2.fr.get k1 (hnf _ k2), keep evo2 k2 (lt_of_blk k1)⟩

end Go.Proofs.YtmaecpbkbkncgaaDoor
