/-
  Pages, part 9: Resize: a round of its loop, and the loop's end. Own work.
-/
import Derived.Test.YtmaecpbkbkncgaaDoorP8
set_option linter.unusedVariables false
set_option linter.unusedSimpArgs false
set_option maxRecDepth 100000
namespace Go.Proofs.YtmaecpbkbkncgaaDoor
open Go Go.V Go.RowKit

theorem Row.lt {w : World} {v : Value} {xs : List Value} {bl : Option Nat} (h : Row w v xs bl) : ∀ k, bl = some k → k < w.heap.size := by
  rintro k rfl
  obtain ⟨_, _, h⟩ := h
  exact h.lt

/-- the two stores at a round's end -/
def stores (T : World → Prop) (b : Nat) (x y : Value) (V : World) (A : World → Prop) : Prop :=
  vNilP Tryd.prog (pt b 0) fun v72 =>
  vFA (some 1) v72 fun v73 =>
  (vSt (some 1) v73 x V fun w_9 =>
  T w_9 ∧ (vNilP Tryd.prog (pt b 0) fun v74 =>
  vFA (some 2) v74 fun v75 =>
  (vSt (some 1) v75 y w_9 fun w_10 =>
  (A w_10)) ∧
  (True))) ∧
  (True)

theorem stores_ok {T : World → Prop} {b : Nat} {n x0 y0 x y : Value} {V : World} {A : World → Prop} (h : Cs V b [n, x0, y0]) (hx : x.oneCell' = true) (hx2 : ∀ c, x ≠ .agg c) (hy : y.oneCell' = true) (hy2 : ∀ c, y ≠ .agg c)
    (hT : ∀ w, Fr (fun k => k = b) V w → T w) (hA : ∀ w, Up V b [n, x, y] w → A w) : stores T b x y V A := by
  unfold stores
  refine rNil <| rFA0 ⟨?_, trivial⟩
  refine rSt h (by simp) hx hx2 ?_
  intro w1 u1
  refine ⟨hT w1 u1.fr, ?_⟩
  refine rNil <| rFA0 ⟨?_, trivial⟩
  refine rSt u1.cs (by simp) hy hy2 ?_
  intro w2 u2
  exact hA w2 ⟨u1.fr.trans u2.fr fun _ _ => id, u2.size.trans u1.size, u2.cs⟩

theorem round_ok {w : World} {g : Gh} {n v2 : Nat} {c : Nat → UInt8} {K : Value → World → Prop} {ρ : Env} {ds : List Nat} {ag1 : List Value → List Nat → World → Prop} (h : By w g n c) (hn : n ≤ 4096) (e2 : ρ 2 = pt v2 0) (hv2 : Cs w v2 [pt g.b 0]) (nv : ¬ g.sees v2)
    (hlt : g.ps.length < (n + 63) / 64) (hc : ∀ i, 64 * g.ps.length ≤ i → i < 64 * g.ps.length + 64 → c i = 0)
    (hA : ∀ w' g', By w' g' n c → Evo w g w' g' → g'.ps.length = g.ps.length + 1 → ag1 [pt v2 0] ds w') : F22L1 K ρ ds w ag1 := by
  obtain ⟨lv, ov, hd, hl, ho⟩ := h.hd
  have hbl := h.lt
  have hbl1 := fun k (hk : g.lb = some k) => hbl k (.inl (.inr (.inl hk)))
  have hbl2 := fun k (hk : g.ob = some k) => hbl k (.inl (.inr (.inr (.inl hk))))
  obtain ⟨_, _, la, lc, hlv⟩ := hl.val
  unfold F22L1
  rw [e2]
  refine ⟨fun V => Cs V v2 [pt g.b 0] ∧ Cs V g.b [it n, lv, ov], ⟨hv2, hd⟩, ?_⟩
  refine rLdS _ (fun V hV => ⟨_, hV.1, rfl⟩) <| rNil <| rFA0 <| rLdS lv (fun V hV => ⟨_, hV.2, rfl⟩) ?_
  have hlen : vLen (.slice 1) lv = vLen (.slice 1) (.slice la g.ps.length lc) := by rw [hlv]; simp
  rw [hlen]
  refine rLenS <| rLdS _ (fun V hV => ⟨_, hV.1, rfl⟩) ⟨?_, trivial⟩
  refine (pages_spec (w := w.drew) hd hn ?_).call
  refine ⟨⟨hv2, hd⟩, ?_⟩
  refine rLt <| rIf (fun _ => ?_) (fun hf => absurd hf (by simp; omega))
  refine ⟨fun V => Cs V v2 [pt g.b 0] ∧ Cs V g.b [it n, lv, ov], fun V => Cs V v2 [pt g.b 0], ⟨hv2, hd⟩, ?_⟩
  refine rLdS _ (fun V hV => ⟨_, hV.1, rfl⟩) <| rLdS (pt g.b 0) (fun V hV => ⟨_, hV.elim (·.1) id, rfl⟩) <| rLdS _ (fun V hV => ⟨_, hV.1, rfl⟩) ?_
  refine rNil <| rFA0 <| rLdS lv (fun V hV => ⟨_, hV.2, rfl⟩) <| rLdS (pt g.b 0) (fun V hV => ⟨_, hV.elim (·.1) id, rfl⟩) ?_
  refine rNil <| rFA0 <| rLdS ov (fun V hV => ⟨_, hV.2, rfl⟩) ?_
  -- what stands throughout
  generalize hw0 : w.drew.drew = w0
  have f0 : Fr (fun k => g.lb = some k ∨ g.ob = some k) w w0 := by rw [← hw0]; exact (Fr.refl _ w).drew.drew
  have z0 : w0.heap.size = w.heap.size := by rw [← hw0]; rfl
  have nlo : ∀ k, w.heap.size ≤ k → ¬ (g.lb = some k ∨ g.ob = some k) := fun k hk e => by
    rcases e with e | e
    · have := hbl1 k e; omega
    · have := hbl2 k e; omega
  have hS : ∀ V, Fr (fun k => g.lb = some k ∨ g.ob = some k) w V → Cs V v2 [pt g.b 0] ∧ Cs V g.b [it n, lv, ov] := fun V hf =>
    ⟨hv2.fr hf (fun e => nv (e.elim (fun e => .inl (.inr (.inl e))) (fun e => .inl (.inr (.inr (.inl e)))))),
     hd.fr hf (fun e => e.elim (fun e => (h.d1 _ e).1 rfl) (fun e => (h.d2 _ e).1 rfl))⟩
  have lem2 : ∀ V q t v65 lb, Fr (fun k => g.lb = some k ∨ g.ob = some k) w V → w.heap.size ≤ q → Cs V q (pgc (fun _ => 0) 0) → Row V v65 ((g.ps ++ [q]).map (pt · 0)) lb → (∀ k, lb = some k → g.lb = some k ∨ w.heap.size ≤ k) → lb ≠ some q →
      Row V ov (g.ow.map .bool) g.ob → Cs V t [.bool true] →
      vAppend Tryd.prog 59 59 ov (sv t 1 1) V fun v71 w_8 => (Cs w_8 v2 [pt g.b 0] ∧ Cs w_8 g.b [it n, lv, ov]) ∧ stores (fun V => Cs V v2 [pt g.b 0]) g.b v65 v71 w_8 (ag1 [pt v2 0] ds) := by
    intro V q t v65 lb fV hq hqc hrow hlb hlq hro ht
    refine app58 hro ht rfl (by rw [List.length_map, h.ow]; omega) ?_
    intro V2 v71 ob hro2 f2 hob
    have fV2 : Fr (fun k => g.lb = some k ∨ g.ob = some k) w V2 := fV.trans f2 (fun _ _ => .inr)
    have hnl : ∀ k, lb = some k → g.ob ≠ some k := fun k hk e => by
      rcases hlb k hk with e1 | e1
      · exact (h.d1 k e1).2.1 e
      · have := hbl2 k e; omega
    refine ⟨hS V2 fV2, ?_⟩
    refine stores_ok (hS V2 fV2).2 hrow.val.1 hrow.val.2.1 hro2.val.1 hro2.val.2.1 (fun V3 f3 => (hS V2 fV2).1.fr f3 (fun e => nv (e ▸ .inl (.inl rfl)))) ?_
    intro V3 u3
    obtain ⟨g', k1, k2, k3⟩ := h.grow fV2 hq (hqc.fr f2 (fun e => nlo q hq (.inr e))) hc (hrow.fr f2 hnl) (by rw [List.map_append]; exact hro2) hlb
      (fun k hk => (hob k hk).imp id (fun e => Nat.le_trans fV.size e)) hlq
      (fun e => by
        rcases hob q e with e1 | e1
        · have := hbl2 q e1; omega
        · have := hqc.lt; omega)
      (fun k hk e => by
        rcases hob k e with e1 | e1
        · exact hnl k hk e1
        · have := hrow.lt k hk; omega) u3
    exact hA V3 g' k1 k2 k3
  have rows : ∀ V V2, Row V lv (g.ps.map (pt · 0)) g.lb ∧ Row V ov (g.ow.map .bool) g.ob → Fr (fun _ => False) V V2 → Row V2 lv (g.ps.map (pt · 0)) g.lb ∧ Row V2 ov (g.ow.map .bool) g.ob := fun V V2 hr f =>
    ⟨hr.1.fr f (fun _ _ => id), hr.2.fr f (fun _ _ => id)⟩
  have a57 : ∀ (V : World) (q t : Nat) (K : Value → World → Prop), Fr (fun k => g.lb = some k ∨ g.ob = some k) w V → w.heap.size ≤ q → Cs V q (pgc (fun _ => 0) 0) → Cs V t [pt q 0] → (Row V lv (g.ps.map (pt · 0)) g.lb ∧ Row V ov (g.ow.map .bool) g.ob) →
      (∀ V2 v65 lb, Fr (fun k => g.lb = some k ∨ g.ob = some k) w V2 → Fr (fun k => g.lb = some k) V V2 → Cs V2 q (pgc (fun _ => 0) 0) → Row V2 v65 ((g.ps ++ [q]).map (pt · 0)) lb → (∀ k, lb = some k → g.lb = some k ∨ w.heap.size ≤ k) → lb ≠ some q →
        Row V2 ov (g.ow.map .bool) g.ob → K v65 V2) → vAppend Tryd.prog 58 58 lv (sv t 1 1) V K := by
    intro V q t K fV hq hqc ht hr hK
    refine app57 hr.1 ht rfl (by rw [List.length_map]; omega) ?_
    intro V2 v65 lb hrow f2 hlb
    refine hK V2 v65 lb (fV.trans f2 (fun _ _ => .inl)) f2 (hqc.fr f2 (fun e => nlo q hq (.inl e))) (by rw [List.map_append]; exact hrow) (fun k hk => (hlb k hk).imp id (fun e => Nat.le_trans fV.size e)) ?_ (hr.2.fr f2 (fun k hk e => (h.d1 k e).2.1 hk))
    intro e
    rcases hlb q e with e1 | e1
    · have := hbl1 q e1; omega
    · have := hqc.lt; omega
  have lem1 : ∀ V q t t', Fr (fun k => g.lb = some k ∨ g.ob = some k) w V → w.heap.size ≤ q → Cs V q (pgc (fun _ => 0) 0) → Cs V t [pt q 0] → w.heap.size ≤ t' → Cs V t' [.bool true] → (Row V lv (g.ps.map (pt · 0)) g.lb ∧ Row V ov (g.ow.map .bool) g.ob) →
      vAppend Tryd.prog 58 58 lv (sv t 1 1) V fun v65 w_7 => (Cs w_7 v2 [pt g.b 0] ∧ Cs w_7 g.b [it n, lv, ov]) ∧ ((vAppend Tryd.prog 59 59 ov (sv t' 1 1) w_7 fun v71 w_8 =>
        (Cs w_8 v2 [pt g.b 0] ∧ Cs w_8 g.b [it n, lv, ov]) ∧ stores (fun V => Cs V v2 [pt g.b 0]) g.b v65 v71 w_8 (ag1 [pt v2 0] ds)) ∧ True) := by
    intro V q t t' fV hq hqc ht htt ht' hr
    refine a57 V q t _ fV hq hqc ht hr ?_
    intro V2 v65 lb fV2 f2 hqc2 hrow hlb hlq hro
    exact ⟨hS V2 fV2, lem2 V2 q t' v65 lb fV2 hq hqc2 hrow hlb hlq hro (ht'.fr f2 (fun e => nlo t' htt (.inl e))), trivial⟩
  have r0 : Row w0 lv (g.ps.map (pt · 0)) g.lb ∧ Row w0 ov (g.ow.map .bool) g.ob := by
    rw [← hw0]
    exact rows w _ ⟨hl, ho⟩ (Fr.refl _ w).drew.drew
  refine ⟨?_, ?_, trivial⟩
  · refine (zero_spec ?_).call
    intro V1 c1 f1 s1
    have F1 := f0.more f1
    have r1 := rows _ _ r0 f1
    refine ⟨hS V1 F1, ?_, ?_, trivial⟩
    · refine bs57 _ rfl ?_
      intro V2 c2 f2 s2
      have F2 := F1.more f2
      have r2 := rows _ _ r1 f2
      have q2 := c1.fr f2 id
      refine ⟨hS V2 F2, ?_, ?_, trivial⟩
      · refine a57 V2 _ _ _ F2 (by omega) q2 c2 r2 ?_
        intro V3 v65 lb F3 f3 q3 hrow hlb hlq hro
        refine ⟨hS V3 F3, ?_, trivial⟩
        refine bs58 ?_
        intro V4 c4 f4 s4
        exact ⟨hS V4 (F3.more f4), lem2 V4 _ _ v65 lb (F3.more f4) (by omega) (q3.fr f4 id) (hrow.fr f4 (fun _ _ => id)) hlb hlq (hro.fr f4 (fun _ _ => id)) c4, trivial⟩
      · refine bs58 ?_
        intro V3 c3 f3 s3
        exact ⟨hS V3 (F2.more f3), lem1 V3 _ _ _ (F2.more f3) (by omega) (q2.fr f3 id) (c2.fr f3 id) (by omega) c3 (rows _ _ r2 f3), trivial⟩
    · refine bs58 ?_
      intro V2 c2 f2 s2
      have F2 := F1.more f2
      refine ⟨hS V2 F2, ?_, trivial⟩
      refine bs57 _ rfl ?_
      intro V3 c3 f3 s3
      exact ⟨hS V3 (F2.more f3), lem1 V3 _ _ _ (F2.more f3) (by omega) ((c1.fr f2 id).fr f3 id) c3 (by omega) (c2.fr f3 id) (rows _ _ (rows _ _ r1 f2) f3), trivial⟩
  · refine bs58 ?_
    intro V1 c1 f1 s1
    have F1 := f0.more f1
    refine ⟨hS V1 F1, ?_, trivial⟩
    refine (zero_spec ?_).call
    intro V2 c2 f2 s2
    have F2 := F1.more f2
    refine ⟨hS V2 F2, ?_, trivial⟩
    refine bs57 _ rfl ?_
    intro V3 c3 f3 s3
    exact ⟨hS V3 (F2.more f3), lem1 V3 _ _ _ (F2.more f3) (by omega) (c2.fr f3 id) c3 (by omega) ((c1.fr f2 id).fr f3 id) (rows _ _ (rows _ _ (rows _ _ r0 f1) f2) f3), trivial⟩

end Go.Proofs.YtmaecpbkbkncgaaDoor
