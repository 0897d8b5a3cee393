/-
  Isa, part 1: the shape of an operation. Own work.
-/
import Derived.Test.YtnmmpgeojimgoaaDoorI0
import Derived.Lib.SmallJoins
import Derived.Test.YtnmmpgeojimgoaaDoorVg
set_option linter.unusedVariables false
set_option linter.unusedSimpArgs false
set_option maxRecDepth 100000
set_option maxRecDepth 100000
namespace Go.Proofs.YtnmmpgeojimgoaaDoor
open Go Go.V Go.RowKit

/-- the library's variables that are read -/
structure Tabs (w : World) : Prop where
  sp : Lib.TabIs Tryd.prog w "strings.asciiSpace" .u8 Lib.asciiSpaceTab
  p10 : Lib.TabIs Tryd.prog w "internal/strconv.uint64pow10" .u64 Lib.pow10Tab
  es : ∃ te pe, w.cell? ⟨2, 0, none⟩ = some (.iface te pe)
  er : ∃ te pe, w.cell? ⟨3, 0, none⟩ = some (.iface te pe)
  ml : ∃ m, w.cell? ⟨5, 0, none⟩ = some (.int .i64 m)

theorem tabNamed : ∃ g, Tryd.prog.globalNamed "strings.asciiSpace" = some g := by
  have h : (Tryd.prog.globalNamed "strings.asciiSpace").isSome = true := by kernel_rfl
  exact Option.isSome_iff_exists.1 h
theorem powNamed : ∃ g, Tryd.prog.globalNamed "internal/strconv.uint64pow10" = some g := by
  have h : (Tryd.prog.globalNamed "internal/strconv.uint64pow10").isSome = true := by kernel_rfl
  exact Option.isSome_iff_exists.1 h

theorem Tabs.fr {w w' : World} (h : Tabs w) (f : Fr (fun _ => False) w w') : Tabs w' := by
  obtain ⟨g, hg⟩ := tabNamed
  obtain ⟨q, hq⟩ := powNamed
  obtain ⟨a, b, h1⟩ := h.es
  obtain ⟨c, d, h2⟩ := h.er
  obtain ⟨m, h3⟩ := h.ml
  exact ⟨Go.Joins.tab_stays hg h.sp (below_of_fr0 f) (Nat.le_refl _), Go.Joins.tab_stays hq h.p10 (below_of_fr0 f) (Nat.le_refl _), ⟨a, b, cell_fr h1 f⟩, ⟨c, d, cell_fr h2 f⟩, ⟨m, cell_fr h3 f⟩⟩

def opText : List UInt8 := [104, 97, 108, 116, 32, 110, 111, 112, 32, 115, 121, 115, 32, 115, 101, 116, 32, 109, 111, 114, 101, 32, 109, 111, 118, 101, 32, 97, 100, 100, 32, 115, 117, 98, 32, 109, 117, 108, 32, 100, 105, 118, 32, 109, 111, 100, 32, 97, 110, 100, 32, 111, 114, 32, 120, 111, 114, 32, 115, 104, 108, 32, 115, 104, 114, 32, 108, 101, 115, 115, 32, 115, 97, 109, 101, 32, 108, 111, 97, 100, 32, 107, 101, 101, 112, 32, 112, 117, 108, 108, 32, 112, 117, 115, 104, 32, 103, 111, 32, 122, 101, 114, 111, 32, 110, 111, 116, 32, 99, 97, 108, 108, 32, 98, 97, 99, 107]

def opNames : List (List UInt8) := [[104, 97, 108, 116], [110, 111, 112], [115, 121, 115], [115, 101, 116], [109, 111, 114, 101], [109, 111, 118, 101], [97, 100, 100], [115, 117, 98], [109, 117, 108], [100, 105, 118], [109, 111, 100], [97, 110, 100], [111, 114], [120, 111, 114], [115, 104, 108], [115, 104, 114], [108, 101, 115, 115], [115, 97, 109, 101], [108, 111, 97, 100], [107, 101, 101, 112], [112, 117, 108, 108], [112, 117, 115, 104], [103, 111], [122, 101, 114, 111], [110, 111, 116], [99, 97, 108, 108], [98, 97, 99, 107]]

theorem opFields : Lib.fields opText = opNames := by decide +kernel

theorem opNames_len : opNames.length = 27 := rfl

def opName (op : Int) : List UInt8 := if 0 ≤ op then (opNames[op.toNat]?).getD [] else []
def shRegs (op : Int) : Int :=
  if op = 3 ∨ op = 4 then 1 else if op = 5 ∨ op = 25 then 2 else if 6 ≤ op ∧ op ≤ 17 then 3 else if 18 ≤ op ∧ op ≤ 21 then 2 else if op = 22 then 0 else if op = 23 ∨ op = 24 then 1 else 0
def shNum (op : Int) : Int :=
  if op = 3 ∨ op = 4 then 1 else if op = 5 ∨ op = 25 then 0 else if 6 ≤ op ∧ op ≤ 17 then 0 else if 18 ≤ op ∧ op ≤ 21 then 2 else if op = 22 then 3 else if op = 23 ∨ op = 24 then 3 else 0
def shapeV (op : Int) : Value := .agg #[str (opName op), it (shRegs op), it (shNum op)]

theorem zc100 : zc Tryd.prog 52 = some #[str [], it 0, it 0] := by kernel_rfl
theorem b100e : (fun (K : Value → Prop) => vBuild Tryd.prog 52 [] K) = fun K => K (.agg #[str [], it 0, it 0]) := by kernel_rfl
theorem build100e {K : Value → Prop} (k : K (.agg #[str [], it 0, it 0])) : vBuild Tryd.prog 52 [] K := by
  have := congrFun b100e K
  exact this ▸ k
theorem b100 : (fun (s : ByteArray) (K : Value → Prop) => vBuild Tryd.prog 52 [(0, .string s)] K) = fun s K => ((1 : Nat) = 1 ∧ K (.agg #[.string s, it 0, it 0])) := by kernel_rfl
theorem build100 {s : List UInt8} {K : Value → Prop} (k : K (.agg #[str s, it 0, it 0])) : vBuild Tryd.prog 52 [(0, str s)] K := by
  have := congrFun (congrFun b100 ⟨s.toArray⟩) K
  exact this ▸ ⟨rfl, k⟩

theorem joinOne {sel : List Nat} {L : List Value} {ds : List Nat} {w : World} {a : (List Value → List Nat → World → Prop) → Prop} {b : Env → List Nat → World → Prop}
    (ha : a (fun vs ds' W => vs = L ∧ ds' = ds ∧ W = w)) (hb : ∀ ρ, sel.map ρ = L → b ρ ds w) : joinF sel a b :=
  ⟨_, ha, fun ρ ds' W ⟨h1, h2, h3⟩ => by subst h2; subst h3; exact hb ρ h1⟩

/-- what stands in a block of plain cells is read, laid elsewhere, read there -/
theorem leave3 {w0 w : World} {b r : Nat} {cs ds : List Value} {K : Value → World → Prop} (hn : cs.length = 3) (hm : ds.length = 3) (hb : Cs w b cs) (hr : Cs w r ds) (hr0 : w0.heap.size ≤ r)
    (hc : ∀ x ∈ cs, x.oneCell' = true) (f : Fr (fun _ => False) w0 w) (hK : ∀ w', Fr (fun _ => False) w0 w' → K (.agg cs.toArray) w') :
    vLd (.agg 3) (pt b 0) w fun v => vSt (some 3) (pt r 0) v w fun w2 => leaveV [] w2 fun W => vLd (.agg 3) (pt r 0) W fun v => K v W := by
  refine rLdN hb (by omega) ?_
  have e : ((cs.drop 0).take 3) = cs := by rw [List.drop_zero, List.take_of_length_le (by omega)]
  rw [e]
  refine rStN hr (by simp [hn]) (by omega) (by simpa using hc) ?_
  intro w2 u
  have e2 : spl ds 0 cs.toArray.toList = cs := by simp [spl, hn, hm]
  rw [e2] at u
  show vLd (.agg 3) (pt r 0) w2 fun v => K v w2
  refine rLdN u.cs (by omega) ?_
  rw [e]
  exact hK w2 (f.trans u.fr fun k hk e => by omega)

theorem shape_end {w0 w : World} {b r : Nat} {s : List UInt8} {x y : Int} {ds : List Value} {op : Int} {K : Value → World → Prop} (hm : ds.length = 3) (hb : Cs w b [str s, it x, it y]) (hr : Cs w r ds) (hr0 : w0.heap.size ≤ r) (f : Fr (fun _ => False) w0 w)
    (hK : ∀ w', Fr (fun _ => False) w0 w' → K (shapeV op) w') (e1 : s = opName op) (e2 : x = shRegs op) (e3 : y = shNum op) :
    vLd (.agg 3) (pt b 0) w fun v => vSt (some 3) (pt r 0) v w fun w2 => leaveV [] w2 fun W => vLd (.agg 3) (pt r 0) W fun v => K v W := by
  subst e1; subst e2; subst e3
  exact leave3 rfl hm hb hr hr0 (by intro x hx; simp at hx; rcases hx with rfl | rfl | rfl <;> rfl) f hK

theorem opName_in {op : Int} (h0 : 0 ≤ op) (h1 : op < 27) : opNames[op.toNat]? = some (opName op) := by
  unfold opName
  rw [if_pos h0, List.getElem?_eq_getElem (by rw [opNames_len]; omega)]
  rfl
theorem opName_out {op : Int} (h : op < 0 ∨ 27 ≤ op) : opName op = [] := by
  unfold opName
  split
  · rw [List.getElem?_eq_none (by rw [opNames_len]; omega)]; rfl
  · rfl
theorem opName_ne {op : Int} (h0 : 0 ≤ op) (h1 : op < 27) : opName op ≠ [] := by
  have h := opName_in h0 h1
  intro e
  rw [e] at h
  have := List.mem_of_getElem? h
  revert this
  decide

/-- isa.shapeOf -/
theorem shape_spec {w : World} {op : Int} {K : Value → World → Prop} (hT : Tabs w) (hK : ∀ w', Fr (fun _ => False) w w' → K (shapeV op) w') : CallK Tryd.prog 28 #[it op] w K := by
  apply Ret.call
  apply F28_ok
  unfold F28
  refine rAllocT zc100 ?_
  intro w1 h1 f1 s1
  have c1 : Cs w1 w.heap.size [str [], it 0, it 0] := ⟨_, h1⟩
  have hf := Tryd.strings_Fields_laid ⟨opText.toArray⟩ w1 (by decide) (by
    have : ∀ b ∈ opText, b.toNat < 128 := by decide
    intro j b hj
    exact this b (List.mem_of_getElem? hj)) (hT.fr f1).sp
  refine Ret.call (ret_of_calls Tryd.call42 (hf.mono fun e w' ⟨h1, h2⟩ => ⟨_, h1, ?_⟩))
  subst h2
  have ef : Lib.fields (⟨opText.toArray⟩ : ByteArray).data.toList = opNames := opFields
  rw [ef]
  have cl : Cs (w1.alloc (.cells (opNames.map fun l => Value.string ⟨l.toArray⟩).toArray 9)) w1.heap.size (opNames.map str) := Cs.new _ _ _
  have f2 : Fr (fun _ => False) w (w1.alloc (.cells (opNames.map fun l => Value.string ⟨l.toArray⟩).toArray 9)) := f1.alloc _
  have c2 := c1.fr ((Fr.refl (fun _ => False) w1).alloc (.cells (opNames.map fun l => Value.string ⟨l.toArray⟩).toArray 9)) id
  generalize (w1.alloc (.cells (opNames.map fun l => Value.string ⟨l.toArray⟩).toArray 9)) = w2 at *
  rw [opNames_len]
  refine joinOne (L := [it op, pt w.heap.size 0, sv w1.heap.size 27 27, .bool (decide (op < 0) || decide ((27 : Int) ≤ op))]) (ds := []) (w := w2) ?_ ?_
  · refine rLt <| rIf (fun h => ⟨by simp [h], rfl, rfl⟩) (fun h => rLenS <| rGe ⟨?_, rfl, rfl⟩)
    rw [h]; simp
  intro ρ hρ
  simp only [List.map_cons, List.map_nil, List.cons.injEq, and_true] at hρ
  obtain ⟨e0, e2, e3, e13⟩ := hρ
  unfold F28J1
  rw [e0, e2, e3, e13]
  refine rIf (fun ho => ?_) (fun ho => ?_)
  · have ho : op < 0 ∨ 27 ≤ op := by simpa using ho
    refine build100e ?_
    refine rStN c2 rfl (by simp) (by intro x hx; simp at hx; rcases hx with rfl | rfl <;> rfl) ?_
    intro w3 u3
    show vLd (.agg 3) (pt w.heap.size 0) w3 fun r => K r w3
    refine rLdN u3.cs (by simp [spl]) ?_
    have ev : shapeV op = .agg #[str [], it 0, it 0] := by
      unfold shapeV
      rw [opName_out ho]
      have : shRegs op = 0 := by unfold shRegs; repeat' split
                                 all_goals omega
      have : shNum op = 0 := by unfold shNum; repeat' split
                                all_goals omega
      simp [*]
    have := hK w3 (f2.trans u3.fr fun k hk e => by omega)
    rw [ev] at this
    exact this
  have ho : 0 ≤ op ∧ op < 27 := by
    simp at ho; omega
  obtain ⟨k, rfl⟩ := Int.eq_ofNat_of_zero_le ho.1
  have hk : k < 27 := by omega
  have hin := opName_in ho.1 ho.2
  rw [Int.toNat_natCast] at hin
  refine rIA hk ?_
  rw [Nat.mul_one]
  refine rLd cl (v := str (opName k)) (by rw [List.getElem?_map, hin]; rfl) ?_
  refine build100 ?_
  refine rAllocT zc100 ?_
  intro w3 h3 f3 s3
  have c3 : Cs w3 w2.heap.size [str [], it 0, it 0] := ⟨_, h3⟩
  have c4 := c2.fr f3 id
  have hs1 := f2.size
  refine rStN c3 rfl (by simp) (by intro x hx; simp at hx; rcases hx with rfl | rfl <;> rfl) ?_
  intro w4 u4
  have hne : w.heap.size ≠ w2.heap.size := by have := c2.lt; omega
  have d4 : Cs w4 w2.heap.size [str (opName k), it 0, it 0] := u4.cs
  have r4 := c4.up u4 hne
  have f4 : Fr (fun _ => False) w w4 := (f2.more f3).trans u4.fr fun k hk e => by omega
  clear h1 c1 hf cl c2 c3 c4 u4 h3
  generalize w2.heap.size = b at *
  have H : ∀ (x y : Int) (w' : World), Cs w' b [str (opName k), it x, it y] → Cs w' w.heap.size [str [], it 0, it 0] → Fr (fun _ => False) w w' → x = shRegs k → y = shNum k →
      (vLd (.agg 3) (pt b 0) w' fun v => vSt (some 3) (pt w.heap.size 0) v w' fun w2 => leaveV [] w2 fun W => vLd (.agg 3) (pt w.heap.size 0) W fun v => K v W) :=
    fun x y w' hb hr hf h1 h2 => shape_end rfl hb hr (Nat.le_refl _) hf hK rfl h1 h2
  have hbw : w.heap.size ≤ b := by omega
  have S1 : ∀ (x : Int), (x = shRegs k) → (0 = shNum k) → vFA (some 1) (pt b 0) fun p => vSt (some 1) p (it x) w4 fun w' => (vLd (.agg 3) (pt b 0) w' fun v => vSt (some 3) (pt w.heap.size 0) v w' fun w2 => leaveV [] w2 fun W => vLd (.agg 3) (pt w.heap.size 0) W fun v => K v W) := by
    intro x hx hy
    refine rFA0 <| rSt d4 (by simp) rfl (by simp) ?_
    intro w5 u5
    exact H x 0 w5 u5.cs (r4.up u5 hne) (f4.trans u5.fr fun k hk e => by omega) hx hy
  have S2 : ∀ (y : Int), (0 = shRegs k) → (y = shNum k) → vFA (some 2) (pt b 0) fun p => vSt (some 1) p (it y) w4 fun w' => (vLd (.agg 3) (pt b 0) w' fun v => vSt (some 3) (pt w.heap.size 0) v w' fun w2 => leaveV [] w2 fun W => vLd (.agg 3) (pt w.heap.size 0) W fun v => K v W) := by
    intro y hx hy
    refine rFA0 <| rSt d4 (by simp) rfl (by simp) ?_
    intro w5 u5
    exact H 0 y w5 u5.cs (r4.up u5 hne) (f4.trans u5.fr fun k hk e => by omega) hx hy
  have S12 : ∀ (x y : Int), (x = shRegs k) → (y = shNum k) → vFA (some 1) (pt b 0) fun p => vSt (some 1) p (it x) w4 fun w5 => vFA (some 2) (pt b 0) fun p => vSt (some 1) p (it y) w5 fun w' => (vLd (.agg 3) (pt b 0) w' fun v => vSt (some 3) (pt w.heap.size 0) v w' fun w2 => leaveV [] w2 fun W => vLd (.agg 3) (pt w.heap.size 0) W fun v => K v W) := by
    intro x y hx hy
    refine rFA0 <| rSt d4 (by simp) rfl (by simp) ?_
    intro w5 u5
    refine rFA0 <| rSt u5.cs (by simp) rfl (by simp) ?_
    intro w6 u6
    exact H x y w6 u6.cs ((r4.up u5 hne).up u6 hne) ((f4.trans u5.fr fun k hk e => by omega).trans u6.fr fun k hk e => by omega) hx hy
  refine joinOne (L := [it k, pt w.heap.size 0, pt b 0, .bool (decide ((k : Int) = 3) || decide ((k : Int) = 4))]) (ds := []) (w := w4) ?_ ?_
  · refine rEq <| rIf (fun h => ⟨by simp at h; simp [h], rfl, rfl⟩) (fun h => rEq ⟨by simp at h; simp [h]; rfl, rfl, rfl⟩)
  intro ρ hρ
  simp only [List.map_cons, List.map_nil, List.cons.injEq, and_true] at hρ
  obtain ⟨e0, e2, e4, e20⟩ := hρ
  unfold F28J3
  rw [e0, e2, e4, e20]
  refine rIf (fun ha => ?_) (fun ha => ?_)
  · simp at ha
    exact S12 1 1 (by unfold shRegs; rw [if_pos (by omega)]) (by unfold shNum; rw [if_pos (by omega)])
  simp at ha
  refine joinOne (L := [it k, pt w.heap.size 0, pt b 0, .bool (decide ((k : Int) = 5) || decide ((k : Int) = 25))]) (ds := []) (w := w4) ?_ ?_
  · refine rEq <| rIf (fun h => ⟨by simp at h; simp [h], rfl, rfl⟩) (fun h => rEq ⟨by simp at h; simp [h]; rfl, rfl, rfl⟩)
  intro ρ hρ
  simp only [List.map_cons, List.map_nil, List.cons.injEq, and_true] at hρ
  obtain ⟨e0, e2, e4, e29⟩ := hρ
  unfold F28J4
  rw [e0, e2, e4, e29]
  refine rIf (fun hb => ?_) (fun hb => ?_)
  · simp at hb
    exact S1 2 (by unfold shRegs; rw [if_neg (by omega), if_pos (by omega)]) (by unfold shNum; rw [if_neg (by omega), if_pos (by omega)])
  simp at hb
  refine joinOne (L := [it k, pt w.heap.size 0, pt b 0, .bool (decide ((6 : Int) ≤ k) && decide ((k : Int) ≤ 17))]) (ds := []) (w := w4) ?_ ?_
  · refine rGe <| rIf (fun h => rLe ⟨by simp [h], rfl, rfl⟩) (fun h => ⟨by simp [h], rfl, rfl⟩)
  intro ρ hρ
  simp only [List.map_cons, List.map_nil, List.cons.injEq, and_true] at hρ
  obtain ⟨e0, e2, e4, e37⟩ := hρ
  unfold F28J5
  rw [e0, e2, e4, e37]
  refine rIf (fun hc => ?_) (fun hc => ?_)
  · simp at hc
    exact S1 3 (by unfold shRegs; rw [if_neg (by omega), if_neg (by omega), if_pos (by omega)]) (by unfold shNum; rw [if_neg (by omega), if_neg (by omega), if_pos (by omega)])
  simp at hc
  refine joinOne (L := [it k, pt w.heap.size 0, pt b 0, .bool (decide ((18 : Int) ≤ k) && decide ((k : Int) ≤ 21))]) (ds := []) (w := w4) ?_ ?_
  · refine rGe <| rIf (fun h => rLe ⟨by simp [h], rfl, rfl⟩) (fun h => ⟨by simp [h], rfl, rfl⟩)
  intro ρ hρ
  simp only [List.map_cons, List.map_nil, List.cons.injEq, and_true] at hρ
  obtain ⟨e0, e2, e4, e45⟩ := hρ
  unfold F28J6
  rw [e0, e2, e4, e45]
  refine rIf (fun hd => ?_) (fun hd => ?_)
  · simp at hd
    exact S12 2 2 (by unfold shRegs; rw [if_neg (by omega), if_neg (by omega), if_neg (by omega), if_pos (by omega)]) (by unfold shNum; rw [if_neg (by omega), if_neg (by omega), if_neg (by omega), if_pos (by omega)])
  simp at hd
  refine rEq <| rIf (fun he => ?_) (fun he => ?_)
  · simp at he
    exact S2 3 (by unfold shRegs; rw [if_neg (by omega), if_neg (by omega), if_neg (by omega), if_neg (by omega), if_pos (by omega)]) (by unfold shNum; rw [if_neg (by omega), if_neg (by omega), if_neg (by omega), if_neg (by omega), if_pos (by omega)])
  simp at he
  refine joinOne (L := [pt w.heap.size 0, pt b 0, .bool (decide ((k : Int) = 23) || decide ((k : Int) = 24))]) (ds := []) (w := w4) ?_ ?_
  · refine rEq <| rIf (fun h => ⟨by simp at h; simp [h], rfl, rfl⟩) (fun h => rEq ⟨by simp at h; simp [h]; rfl, rfl, rfl⟩)
  intro ρ hρ
  simp only [List.map_cons, List.map_nil, List.cons.injEq, and_true] at hρ
  obtain ⟨e2, e4, e58⟩ := hρ
  unfold F28J7
  rw [e2, e4, e58]
  refine rIf (fun hg => ?_) (fun hg => ?_)
  · simp at hg
    exact S12 1 3 (by unfold shRegs; rw [if_neg (by omega), if_neg (by omega), if_neg (by omega), if_neg (by omega), if_neg (by omega), if_pos (by omega)]) (by unfold shNum; rw [if_neg (by omega), if_neg (by omega), if_neg (by omega), if_neg (by omega), if_neg (by omega), if_pos (by omega)])
  simp at hg
  exact H 0 0 w4 d4 r4 f4 (by unfold shRegs; rw [if_neg (by omega), if_neg (by omega), if_neg (by omega), if_neg (by omega), if_neg (by omega), if_neg (by omega)]) (by unfold shNum; rw [if_neg (by omega), if_neg (by omega), if_neg (by omega), if_neg (by omega), if_neg (by omega), if_neg (by omega)])

end Go.Proofs.YtnmmpgeojimgoaaDoor
