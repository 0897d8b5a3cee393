/-
  Cpu, part 7: a step. Own work.
-/
import Derived.Test.YtmaecpbkbkncgaaDoorC6
set_option linter.unusedVariables false
set_option linter.unusedSimpArgs false
set_option maxRecDepth 100000
namespace Go.Proofs.YtmaecpbkbkncgaaDoor
open Go Go.V Go.RowKit

theorem decode_right {s : List UInt8} {c : Cd} (h : decode s = some c) : rightB c = true ∧ -32768 ≤ c.n ∧ c.n < 65536 := by
  unfold decode at h
  split at h
  · split at h
    · rename_i hr
      cases h
      exact ⟨hr, decC_n _ _ _ _⟩
    · cases h
  · cases h

theorem movesP_not {r : List Nat} {l : List UInt8} {c : Cd} (h : (movesP r l c).2.2 = false) : (movesP r l c).1 = r ∧ (movesP r l c).2.1 = l := by
  unfold movesP at *
  split
  · rename_i hs
    rw [if_pos hs] at h
    refine ⟨rfl, ?_⟩
    unfold stR at *
    split
    · rename_i hf
      rw [if_pos hf] at h
      cases h
    · rfl
  · rename_i hs
    rw [if_neg hs] at h
    split
    · rename_i s hl
      simp only [hl] at h
      cases h
    · exact ⟨rfl, rfl⟩

theorem rFar {n : Int} {x : Nat} {K : Value → Prop} (h1 : -32768 ≤ n) (h2 : n < 65536) (k : K (ut (((x : Int) + 4 * n) % 18446744073709551616).toNat)) :
    vBin (.int .i64) .mul (it 4) (it n) fun v40 => vConv (.int .u64) v40 fun v41 => vBin (.int .u64) .add (ut x) v41 K := by
  refine ⟨rfl, rCv ?_⟩
  rw [wrap_id (by omega) (by omega), wrap_u64m]
  refine ⟨rfl, ?_⟩
  rw [wrap_u64m]
  have e : ((x : Int) + 4 * n % 18446744073709551616) % 18446744073709551616 = (((((x : Int) + 4 * n) % 18446744073709551616).toNat : Nat) : Int) := by omega
  rw [e]
  exact k

theorem rEqB {a b : Bool} {K : Value → Prop} (k : K (.bool (a == b))) : vBin .bool .eql (.bool a) (.bool b) K := k

theorem farP_lt (r : List Nat) (n : Int) : farP r n < 18446744073709551616 := by unfold farP; omega
theorem nextP_lt (r : List Nat) : nextP r < 18446744073709551616 := Nat.mod_lt _ (by decide)

theorem or_more {x n : Nat} (hn : n < 65536) : (x * 2 ^ (min 16 64) % 18446744073709551616) ||| n = (x * 65536 + n) % 18446744073709551616 := by
  have e : x * 2 ^ (min 16 64) % 18446744073709551616 = (x % 281474976710656) * 2 ^ 16 := by
    have : 2 ^ (min 16 64) = 65536 := by decide
    rw [this]
    show _ = (x % 281474976710656) * 65536
    omega
  rw [e, Nat.or_comm, or_add (i := 16) hn]
  show n + (x % 281474976710656) * 65536 = _
  omega

theorem uNat {n : Int} (h0 : 0 ≤ n) (h1 : n < 65536) {K : Value → Prop} (k : K (ut n.toNat)) : vConv (.int .u64) (it n) K := by
  refine rCv ?_
  rw [wrap_u64 h0 (by omega)]
  have en : n = ((n.toNat : Nat) : Int) := by omega
  have e1 : Value.int .u64 n = ut n.toNat := congrArg (Value.int .u64) en
  rw [e1]
  exact k

/-- cpu.Step -/
theorem step_spec {w0 w : World} {g : Gh} {l : List UInt8} {p : Nat} {r : List Nat} {m : Value} {K : Value → World → Prop} (hT : Tabs w0) (h : Sm w0 w g l p r) (hM : Mem m g.b)
    (hK : ∀ w' g', Evp w g p w' g' → Sm w0 w' g' (stepP r l).2.1 p (stepP r l).1 → K (it (stepP r l).2.2) w') : CallK Tryd.prog 13 #[pt p 0, m] w K := by
  apply Ret.call
  apply F13_ok
  unfold F13
  unfold stepP at hK
  refine ⟨fun W => Cs W p (stc r), h.st.drew, ?_⟩
  refine rNil <| rFA0 <| rLdS (ut (rg r 16)) (fun W hW => ⟨_, hW, h.ok.cell (i := 16) (by decide)⟩) <| hM.nilL ⟨?_, trivial⟩
  have fd : Fr (fun _ => False) w w.drew := (Fr.refl _ w).drew
  refine hM.load (k := 4) (h.more fd).own rfl (h.ok.rg_lt _) (by decide) ?_
  intro w1 f1
  have f01 := fd.more f1
  have h1 := h.more f01
  refine ⟨h1.st, ?_⟩
  cases hl : ldP l (rg r 16) 4 with
  | none =>
    simp only [hl] at hK
    exact rExt0 <| rExt1 <| rNe <| rIfT (hK w1 g (.of_fr0 f01) h1)
  | some s =>
  simp only [hl] at hK
  refine rExt0 <| rExt1 <| rNe <| rIfF ?_
  refine decode_spec (hT.fr h1.own.fr) ?_
  intro w2 f2
  have f02 := f01.more f2
  cases hd : decode s with
  | none =>
    simp only [hd] at hK
    refine rExt0 <| rExt1 <| rAllocT zc48 ?_
    intro w3 h3 f3 s3
    have d3 : Cs w3 w2.heap.size [it 0, it 0, it 0, it 0, it 0] := ⟨_, h3⟩
    refine rStN d3 rfl (by simp) (by intro x hx; simp at hx; rcases hx with rfl; rfl) ?_
    intro w4 u4
    have f04 : Fr (fun _ => False) w w4 := (f02.more f3).trans u4.fr fun k hk e => by have := f02.size; omega
    exact rNe <| rIfT (hK w4 g (.of_fr0 f04) (h.more f04))
  | some c =>
  simp only [hd] at hK
  obtain ⟨hr, hn1, hn2⟩ := decode_right hd
  obtain ⟨hop, hfit, ha, hb, hc⟩ := right_regs hr
  refine rExt0 <| rExt1 <| rAllocT zc48 ?_
  intro w3 h3 f3 s3
  have d3 : Cs w3 w2.heap.size [it 0, it 0, it 0, it 0, it 0] := ⟨_, h3⟩
  refine rStN d3 rfl (by simp) (by intro x hx; simp at hx; rcases hx with rfl | rfl | rfl | rfl | rfl <;> rfl) ?_
  intro w4 u4
  have hs2 := f02.size
  have f04 : Fr (fun _ => False) w w4 := (f02.more f3).trans u4.fr fun k hk e => by omega
  have d4 : Cs w4 w2.heap.size c.cs := u4.cs
  have h4 := h.more f04
  have hq : w.heap.size ≤ w2.heap.size := hs2
  have hq4 : w2.heap.size < w4.heap.size := d4.lt
  clear d3 u4 h3 s3 f3 f1 h1 f01 f2 f02 hs2 hl hd
  generalize w2.heap.size = q at *
  have hgo : ∀ {v : Nat} {r' : List Nat} {w' : World} {g' : Gh} {l' : List UInt8} {x : Int}, Sm w0 w' g' l' p r' → Evp w g p w' g' → v < 18446744073709551616 → (∀ w' g', Evp w g p w' g' → Sm w0 w' g' l' p (goP r' v) → K (it x) w') →
      vNilP Tryd.prog (pt p 0) fun u => vFA (some 16) u fun u => vSt (some 1) u (ut v) w' fun W => K (it x) W := by
    intro v r' w' g' l' x hs he hv hk
    refine hs.setPc hv ?_
    intro w'' f'' h''
    exact hk w'' g' (he.trans (.of_fr f'')) h''
  have e4 : Evp w g p w4 g := .of_fr0 f04
  have hnx := nextP_lt r
  refine rNe <| rIfF <| rNil <| rFA0 <| rLd h4.st (h.ok.cell (i := 16) (by decide)) <| rAddU (y := 4) ?_
  show vFA (some 4) (pt q 0) _
  have en : (rg r 16 + 4) % 18446744073709551616 = nextP r := rfl
  rw [en]
  refine rFA0 <| rLd d4 rfl <| rFar hn1 hn2 ?_
  have ef : (((nextP r : Int) + 4 * c.n) % 18446744073709551616).toNat = farP r c.n := rfl
  rw [ef]
  have hfar := farP_lt r c.n
  generalize hFF : farP r c.n = far at *
  refine rFA0 <| rLd d4 rfl ?_
  unfold doP at hK
  rw [hFF] at hK
  have E : ∀ {n : Int} {A B : Prop}, (c.op = n → A) → (¬ c.op = n → B) → vBin (.int .i64) .eql (it c.op) (it n) fun v => vBool v fun c => if c = true then A else B :=
    fun ha hb => rEq <| rIf (fun h => ha (by simpa using h)) (fun h => hb (by simpa using h))
  have hS : ∀ (v : Value) (o : Nat), c.cs[o]? = some v → ∀ W, (Cs W q c.cs ∧ Cs W p (stc r)) → ∃ cs, Cs W q cs ∧ cs[o]? = some v := fun v o hv W hW => ⟨_, hW.1, hv⟩
  have hS2 : ∀ (i : Int), i < 17 → ∀ W, (Cs W q c.cs ∧ Cs W p (stc r)) → ∃ cs, Cs W p cs ∧ cs[i.toNat]? = some (ut (rg r i)) := fun i hi W hW => ⟨_, hW.2, h.ok.cell hi⟩
  have f4d : Fr (fun _ => False) w4 w4.drew := (Fr.refl _ w4).drew
  have h4d := h4.more f4d
  have e4d : Evp w g p w4.drew g := .of_fr0 f04.drew
  have hSd : Cs w4.drew q c.cs ∧ Cs w4.drew p (stc r) := ⟨d4.drew, h4.st.drew⟩
  refine E (fun h0 => ?_) (fun h0 => ?_)
  · rw [if_pos h0] at hK
    exact hK w4 g e4 h4
  rw [if_neg h0] at hK
  refine E (fun h1 => ?_) (fun h1 => ?_)
  · rw [if_pos h1] at hK
    exact hgo h4 e4 hnx hK
  rw [if_neg h1] at hK
  refine E (fun h2 => ?_) (fun h2 => ?_)
  · rw [if_pos h2] at hK
    exact hgo h4 e4 hnx hK
  rw [if_neg h2] at hK
  refine E (fun h3 => ?_) (fun h3 => ?_)
  · rw [if_pos h3] at hK
    have hn : 0 ≤ c.n ∧ c.n < 65536 := by
      have : shNum c.op = 1 := by unfold shNum; rw [if_pos (by omega)]
      rw [this] at hfit
      simpa [fitsN] using hfit
    refine ⟨fun W => Cs W q c.cs ∧ Cs W p (stc r), hSd, ?_⟩
    refine rFA0 <| rLdS (it c.a) (hS _ 1 rfl) <| rFA0 <| rLdS (it c.n) (hS _ 4 rfl) <| uNat hn.1 hn.2 <| rNil <| rFA0 <| rIAr ha.1 ha.2 ⟨?_, trivial⟩
    refine h4d.set (by omega) (by omega) ?_
    intro w5 f5 h5
    exact hgo h5 (e4d.trans (.of_fr f5)) hnx hK
  rw [if_neg h3] at hK
  refine E (fun h5 => ?_) (fun h5 => ?_)
  · rw [if_pos h5] at hK
    have hn : 0 ≤ c.n ∧ c.n < 65536 := by
      have : shNum c.op = 1 := by unfold shNum; rw [if_pos (by omega)]
      rw [this] at hfit
      simpa [fitsN] using hfit
    refine ⟨fun W => Cs W q c.cs ∧ Cs W p (stc r), hSd, ?_⟩
    refine rFA0 <| rLdS (it c.a) (hS _ 1 rfl) <| rFA0 <| rLdS (it c.a) (hS _ 1 rfl) <| rNil <| rFA0 <| rIAr ha.1 ha.2 <| rLdS _ (hS2 c.a (by omega)) <| rShlY (y := 16) ?_
    refine rFA0 <| rLdS (it c.n) (hS _ 4 rfl) <| uNat hn.1 hn.2 <| rOrU (Nat.mod_lt _ (by decide)) (by omega) ?_
    rw [or_more (by omega)]
    refine rNil <| rFA0 <| rIAr ha.1 ha.2 ⟨?_, trivial⟩
    refine h4d.set (by omega) (Nat.mod_lt _ (by decide)) ?_
    intro w5 f5 h5
    exact hgo h5 (e4d.trans (.of_fr f5)) hnx hK
  rw [if_neg h5] at hK
  refine E (fun h6 => ?_) (fun h6 => ?_)
  · rw [if_pos h6] at hK
    refine ⟨fun W => Cs W q c.cs ∧ Cs W p (stc r), hSd, ?_⟩
    refine rFA0 <| rLdS (it c.a) (hS _ 1 rfl) <| rFA0 <| rLdS (it c.b) (hS _ 2 rfl) <| rNil <| rFA0 <| rIAr hb.1 hb.2 <| rLdS _ (hS2 c.b (by omega)) <| rNil <| rFA0 <| rIAr ha.1 ha.2 ⟨?_, trivial⟩
    refine h4d.set (by omega) (h.ok.rg_lt _) ?_
    intro w5 f5 h5
    exact hgo h5 (e4d.trans (.of_fr f5)) hnx hK
  rw [if_neg h6] at hK
  refine joinOne (L := [pt p 0, m, pt q 0, ut (nextP r), ut far, it 0, it c.op, .bool (decide (18 ≤ c.op ∧ c.op ≤ 21))]) (ds := []) (w := w4) ?_ ?_
  · have H : ∀ {b : Bool}, b = decide (18 ≤ c.op ∧ c.op ≤ 21) → [pt p 0, m, pt q 0, ut (nextP r), ut far, it 0, it c.op, Value.bool b] = [pt p 0, m, pt q 0, ut (nextP r), ut far, it 0, it c.op, .bool (decide (18 ≤ c.op ∧ c.op ≤ 21))] ∧ ([] : List Nat) = [] ∧ w4 = w4 :=
      fun e => ⟨by rw [e], rfl, rfl⟩
    refine rEq <| rIf (fun h => ?_) (fun h => ?_)
    · rw [h]
      have h : c.op = 18 := by simpa using h
      exact H (by simp [h])
    have h18 : ¬ c.op = 18 := by simpa using h
    refine rEq <| rIf (fun h => ?_) (fun h => ?_)
    · rw [h]
      have h : c.op = 19 := by simpa using h
      exact H (by simp [h])
    have h19 : ¬ c.op = 19 := by simpa using h
    refine rEq <| rIf (fun h => ?_) (fun h => ?_)
    · rw [h]
      have h : c.op = 20 := by simpa using h
      exact H (by simp [h])
    have h20 : ¬ c.op = 20 := by simpa using h
    refine rEq (H ?_)
    rw [Bool.eq_iff_iff]
    simp only [beq_iff_eq, decide_eq_true_eq]
    omega
  intro ρ hρ
  simp only [List.map_cons, List.map_nil, List.cons.injEq, and_true] at hρ
  obtain ⟨e0, e1, e7, e8, e9, e10, e44, e120⟩ := hρ
  unfold F13J2
  rw [e0, e1, e7, e8, e9, e10, e44, e120]
  refine rIf (fun hm => ?_) (fun hm => ?_)
  · have hm : 18 ≤ c.op ∧ c.op ≤ 21 := by simpa using hm
    rw [if_pos hm] at hK
    refine rLdN d4 (by simp) ?_
    refine moves_spec (c := c) h4 hM hr hm ?_
    intro w5 g5 e5 h5
    refine rNot <| rIf (fun hx => ?_) (fun hx => ?_)
    · have hx : (movesP r l c).2.2 = false := by simpa using hx
      obtain ⟨x1, x2⟩ := movesP_not hx
      rw [x1, x2] at h5
      rw [hx, if_neg (by decide)] at hK
      exact hK w5 g5 (e4.trans e5) h5
    · have hx : (movesP r l c).2.2 = true := by simpa using hx
      rw [if_pos hx] at hK
      exact hgo h5 (e4.trans e5) hnx hK
  have hm : ¬ (18 ≤ c.op ∧ c.op ≤ 21) := by simpa using hm
  rw [if_neg hm] at hK
  refine E (fun h7 => ?_) (fun h7 => ?_)
  · rw [if_pos h7] at hK
    exact hgo h4 e4 hfar hK
  rw [if_neg h7] at hK
  refine joinOne (L := [pt p 0, pt q 0, ut (nextP r), ut far, it 0, it c.op, .bool (decide (c.op = 23 ∨ c.op = 24))]) (ds := []) (w := w4) ?_ ?_
  · refine rEq <| rIf (fun h => ?_) (fun h => rEq ⟨?_, rfl, rfl⟩)
    · rw [h]
      have h : c.op = 23 := by simpa using h
      exact ⟨by simp [h], rfl, rfl⟩
    · have h : ¬ c.op = 23 := by simpa using h
      have : (c.op == 24) = decide (c.op = 23 ∨ c.op = 24) := by simp [h]; rfl
      rw [this]
  intro ρ hρ
  simp only [List.map_cons, List.map_nil, List.cons.injEq, and_true] at hρ
  obtain ⟨e0, e7, e8, e9, e10, e44, e133⟩ := hρ
  unfold F13J3
  rw [e0, e7, e8, e9, e10, e44, e133]
  refine rIf (fun hz => ?_) (fun hz => ?_)
  · have hz : c.op = 23 ∨ c.op = 24 := by simpa using hz
    refine ⟨fun W => Cs W q c.cs ∧ Cs W p (stc r), hSd, ?_⟩
    refine rFA0 <| rLdS (it c.a) (hS _ 1 rfl) <| rNil <| rFA0 <| rIAr ha.1 ha.2 <| rLdS _ (hS2 c.a (by omega)) <| rEqU (y := 0) <| rFA0 <| rLdS (it c.op) (hS _ 0 rfl) <| rEq <| rEqB ?_
    have hK' : ∀ (b : Bool), b = (decide (rg r c.a = 0) == (c.op == 23)) → ∀ w' g', Evp w g p w' g' → Sm w0 w' g' l p (goP r (if b = true then far else nextP r)) → K (it 0) w' := by
      intro b hb
      by_cases h23 : c.op = 23
      · rw [if_pos h23] at hK
        have : (if b = true then far else nextP r) = if rg r c.a = 0 then far else nextP r := by
          rw [hb, h23]
          by_cases hx : rg r c.a = 0 <;> simp [hx]
        rw [this]
        exact hK
      · have h24 : c.op = 24 := by omega
        rw [if_neg h23, if_pos h24] at hK
        have : (if b = true then far else nextP r) = if rg r c.a = 0 then nextP r else far := by
          rw [hb, h24]
          by_cases hx : rg r c.a = 0 <;> simp [hx]
        rw [this]
        exact hK
    refine rIf (fun hx => ?_) (fun hx => ?_)
    · have := hK' true hx.symm
      rw [if_pos rfl] at this
      exact hgo h4d e4d hfar this
    · have := hK' false hx.symm
      rw [if_neg (by decide)] at this
      exact hgo h4d e4d hnx this
  have hz : ¬ (c.op = 23 ∨ c.op = 24) := by simpa using hz
  rw [if_neg (fun e => hz (.inl e)), if_neg (fun e => hz (.inr e))] at hK
  refine E (fun h8 => ?_) (fun h8 => ?_)
  · rw [if_pos h8] at hK
    refine ⟨fun W => Cs W q c.cs ∧ Cs W p (stc r), hSd, ?_⟩
    refine rFA0 <| rLdS (it c.a) (hS _ 1 rfl) <| rFA0 <| rLdS (it c.b) (hS _ 2 rfl) <| rNil <| rFA0 <| rIAr hb.1 hb.2 <| rLdS _ (hS2 c.b (by omega)) <| rNil <| rFA0 <| rIAr ha.1 ha.2 ⟨?_, trivial⟩
    refine h4d.set (by omega) hnx ?_
    intro w5 f5 h5
    exact hgo h5 (e4d.trans (.of_fr f5)) (h.ok.rg_lt _) hK
  rw [if_neg h8] at hK
  refine E (fun h9 => ?_) (fun h9 => ?_)
  · rw [if_pos h9] at hK
    refine rNil <| rFA0 <| rIAr (a := 15) (by decide) (by decide) <| rLd h4.st (h.ok.cell (i := 15) (by decide)) ?_
    exact hgo h4 e4 (h.ok.rg_lt _) hK
  rw [if_neg h9] at hK
  refine ⟨fun W => Cs W q c.cs ∧ Cs W p (stc r), hSd, ?_⟩
  refine rFA0 <| rLdS (it c.a) (hS _ 1 rfl) <| rFA0 <| rLdS (it c.op) (hS _ 0 rfl) <| rFA0 <| rLdS (it c.b) (hS _ 2 rfl) <| rNil <| rFA0 <| rIAr hb.1 hb.2 <| rLdS _ (hS2 c.b (by omega)) ?_
  refine rFA0 <| rLdS (it c.c) (hS _ 3 rfl) <| rNil <| rFA0 <| rIAr hc.1 hc.2 <| rLdS _ (hS2 c.c (by omega)) <| rNil <| rFA0 ⟨?_, trivial⟩
  refine reckon_spec (h.ok.rg_lt _) (h.ok.rg_lt _) ⟨hSd, ?_⟩
  refine rIAr ha.1 ha.2 ⟨?_, trivial⟩
  refine h4d.set (by omega) (reck_lt (h.ok.rg_lt _) (h.ok.rg_lt _)) ?_
  intro w5 f5 h5
  exact hgo h5 (e4d.trans (.of_fr f5)) hnx hK

end Go.Proofs.YtmaecpbkbkncgaaDoor
