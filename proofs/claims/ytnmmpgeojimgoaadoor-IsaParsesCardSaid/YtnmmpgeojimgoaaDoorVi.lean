/-
  The engine, part 9: what a function holds while it runs, as a row of assertions that do not touch one another. Own work.
-/
import Derived.Test.YtnmmpgeojimgoaaDoorVh
set_option linter.unusedVariables false
set_option linter.unusedSimpArgs false
namespace Go.V
open Go Go.RowKit

/-- an assertion of some blocks -/
structure As where
  foot : Nat → Prop
  holds : World → Prop
  lt : ∀ w, holds w → ∀ k, foot k → k < w.heap.size
  fr : ∀ w w' F, holds w → Fr F w w' → (∀ k, foot k → ¬ F k) → holds w'

def As.blk (b : Nat) (cs : List Value) : As := ⟨fun k => k = b, fun w => Cs w b cs, fun w h k e => by subst e; exact h.lt, fun w w' F h f hn => h.fr f (hn b rfl)⟩
def As.row (v : Value) (xs : List Value) (bl : Option Nat) : As := ⟨fun k => bl = some k, fun w => Row w v xs bl, fun w h k e => h.lt k e, fun w w' F h f hn => h.fr f hn⟩
def As.rowM (m : Nat) (v : Value) (xs : List (List Value)) (bl : Option Nat) : As := ⟨fun k => bl = some k, fun w => RowM m w v xs bl, fun w h k e => h.lt k e, fun w w' F h f hn => h.fr f hn⟩

structure Lx (F : Nat → Prop) (w0 w : World) (L : List As) : Prop where
  fr : Fr F w0 w
  ok : ∀ a ∈ L, a.holds w
  mine : ∀ a ∈ L, ∀ k, a.foot k → F k ∨ w0.heap.size ≤ k
  dj : L.Pairwise fun a b => ∀ k, a.foot k → ¬ b.foot k

section
variable {P : Program} {F : Nat → Prop} {w0 w w' : World} {L : List As}

theorem Lx.start (F : Nat → Prop) (w : World) : Lx F w w [] := ⟨Fr.refl _ _, by simp, by simp, List.Pairwise.nil⟩

theorem Lx.of (f : Fr F w0 w) : Lx F w0 w [] := ⟨f, by simp, by simp, List.Pairwise.nil⟩

theorem Lx.more (h : Lx F w0 w L) (f : Fr (fun _ => False) w w') : Lx F w0 w' L :=
  ⟨h.fr.more f, fun a ha => a.fr _ _ _ (h.ok a ha) f (fun _ _ => id), h.mine, h.dj⟩

theorem Lx.drew (h : Lx F w0 w L) : Lx F w0 w.drew L := h.more (Fr.refl _ w).drew

theorem Lx.get (h : Lx F w0 w L) {i : Nat} {a : As} (hi : L[i]? = some a) : a.holds w := h.ok a (List.mem_of_getElem? hi)

theorem Lx.add (h : Lx F w0 w L) {a : As} (f : Fr (fun _ => False) w w') (ha : a.holds w') (hf : ∀ k, a.foot k → w.heap.size ≤ k) : Lx F w0 w' (a :: L) := by
  have h' := h.more f
  refine ⟨h'.fr, ?_, ?_, ?_⟩
  · intro b hb
    rcases List.mem_cons.1 hb with rfl | hb
    · exact ha
    · exact h'.ok b hb
  · intro b hb k hk
    rcases List.mem_cons.1 hb with rfl | hb
    · exact .inr (Nat.le_trans h.fr.size (hf k hk))
    · exact h.mine b hb k hk
  · refine List.pairwise_cons.2 ⟨fun b hb k hk hkb => ?_, h.dj⟩
    have := b.lt w (h.ok b hb) k hkb
    have := hf k hk
    omega

theorem Lx.sub (h : Lx F w0 w L) {L' : List As} (hs : L'.Sublist L) : Lx F w0 w L' :=
  ⟨h.fr, fun a ha => h.ok a (hs.subset ha), fun a ha => h.mine a (hs.subset ha), h.dj.sublist hs⟩

theorem pair_other {L : List As} (hd : L.Pairwise fun a b => ∀ k, a.foot k → ¬ b.foot k) {i j : Nat} {a b : As} (hi : L[i]? = some a) (hj : L[j]? = some b) (hn : i ≠ j) : ∀ k, a.foot k → ¬ b.foot k := by
  rw [List.pairwise_iff_getElem] at hd
  obtain ⟨hi1, rfl⟩ := List.getElem?_eq_some_iff.1 hi
  obtain ⟨hj1, rfl⟩ := List.getElem?_eq_some_iff.1 hj
  intro k ha hb
  rcases Nat.lt_or_gt_of_ne hn with h | h
  · exact hd i j hi1 hj1 h k ha hb
  · exact hd j i hj1 hi1 h k hb ha

/-- one assertion becomes another one -/
theorem Lx.step (h : Lx F w0 w L) {i : Nat} {a a' : As} (hi : L[i]? = some a) (f : Fr a.foot w w') (ha : a'.holds w') (hf : ∀ k, a'.foot k → a.foot k ∨ w.heap.size ≤ k) : Lx F w0 w' (L.set i a') := by
  have ham := List.mem_of_getElem? hi
  have hlt := (List.getElem?_eq_some_iff.1 hi).1
  have get : ∀ (j : Nat) b, (L.set i a')[j]? = some b → (j = i ∧ b = a') ∨ (j ≠ i ∧ L[j]? = some b) := by
    intro j b hj
    rw [List.getElem?_set] at hj
    split at hj
    · rename_i e; subst e
      first | (rw [if_pos hlt] at hj) | skip
      cases hj
      exact .inl ⟨rfl, rfl⟩
    · rename_i e
      exact .inr ⟨fun e' => e e'.symm, hj⟩
  have mem : ∀ b ∈ L.set i a', b = a' ∨ ∃ j, j ≠ i ∧ L[j]? = some b := by
    intro b hb
    obtain ⟨j, hj⟩ := List.mem_iff_getElem?.1 hb
    rcases get j b hj with ⟨_, e⟩ | ⟨e, hj⟩
    · exact .inl e
    · exact .inr ⟨j, e, hj⟩
  refine ⟨?_, ?_, ?_, ?_⟩
  · refine h.fr.trans f fun k hk hak => ?_
    rcases h.mine a ham k hak with h1 | h1
    · exact h1
    · exact absurd h1 (by omega)
  · intro b hb
    rcases mem b hb with rfl | ⟨j, hn, hj⟩
    · exact ha
    · exact b.fr _ _ _ (h.get hj) f (pair_other h.dj hj hi hn)
  · intro b hb k hk
    rcases mem b hb with rfl | ⟨j, hn, hj⟩
    · rcases hf k hk with h1 | h1
      · exact h.mine a ham k h1
      · exact .inr (Nat.le_trans h.fr.size h1)
    · exact h.mine b (List.mem_of_getElem? hj) k hk
  · rw [List.pairwise_iff_getElem]
    intro x y hx hy hxy k hk1 hk2
    have g1 := get x _ (List.getElem?_eq_getElem hx)
    have g2 := get y _ (List.getElem?_eq_getElem hy)
    rcases g1 with ⟨e1, e2⟩ | ⟨e1, e2⟩
    · rcases g2 with ⟨e3, e4⟩ | ⟨e3, e4⟩
      · omega
      · rw [e2] at hk1
        rcases hf k hk1 with h1 | h1
        · exact pair_other h.dj e4 hi e3 k hk2 h1
        · have := (L.set i a')[y].lt w (h.get e4) k hk2; omega
    · rcases g2 with ⟨e3, e4⟩ | ⟨e3, e4⟩
      · rw [e4] at hk2
        rcases hf k hk2 with h1 | h1
        · exact pair_other h.dj e2 hi e1 k hk1 h1
        · have := (L.set i a')[x].lt w (h.get e2) k hk1; omega
      · exact pair_other h.dj e2 e4 (by omega) k hk1 hk2

/-! ### Rules -/

theorem sBox {e : TypeId} {cs : Array Value} {K : Value → World → Prop} (h : Lx F w0 w L) (k : ∀ w' b, Lx F w0 w' (.blk b cs.toList :: L) → K (pt b 0) w') : vBox e (.agg cs) w K :=
  k _ _ (h.add (a := .blk w.heap.size cs.toList) ((Fr.refl _ w).alloc _) (Cs.new' w cs e) (fun k e => by rw [show k = w.heap.size from e]; exact Nat.le_refl _))
theorem sBox1 {e : TypeId} {v : Value} {K : Value → World → Prop} (hv : v.cells = #[v]) (h : Lx F w0 w L) (k : ∀ w' b, Lx F w0 w' (.blk b [v] :: L) → K (pt b 0) w') : vBox e v w K := by
  unfold vBox
  rw [hv]
  exact k _ _ (h.add (a := .blk w.heap.size [v]) ((Fr.refl _ w).alloc _) (Cs.new' w #[v] e) (fun k e => by rw [show k = w.heap.size from e]; exact Nat.le_refl _))
theorem sAlloc {e : TypeId} {z : Array Value} {K : Value → World → Prop} (hz : zc P e = some z) (h : Lx F w0 w L) (k : ∀ w' b, Lx F w0 w' (.blk b z.toList :: L) → K (pt b 0) w') : vAlloc P e w K := by
  unfold vAlloc; rw [hz]
  exact k _ _ (h.add (a := .blk w.heap.size z.toList) ((Fr.refl _ w).alloc _) (Cs.new' w z e) (fun k e => by rw [show k = w.heap.size from e]; exact Nat.le_refl _))
theorem sLd {b o i : Nat} {cs : List Value} {v : Value} {K : Value → Prop} (h : Lx F w0 w L) (hi : L[i]? = some (.blk b cs)) (hv : cs[o]? = some v) (k : K v) : vLd .one (pt b o) w K := rLd (h.get hi) hv k
theorem sLdN {b n i : Nat} {cs : List Value} {K : Value → Prop} (h : Lx F w0 w L) (hi : L[i]? = some (.blk b cs)) (hn : cs.length = n) (k : K (.agg cs.toArray)) : vLd (.agg n) (pt b 0) w K := by
  refine rLdN (h.get hi) (by omega) ?_
  rw [List.drop_zero, List.take_of_length_le (by omega)]; exact k
theorem sLdP {b o n i : Nat} {cs : List Value} {K : Value → Prop} (h : Lx F w0 w L) (hi : L[i]? = some (.blk b cs)) (hn : o + n ≤ cs.length) (k : K (.agg ((cs.drop o).take n).toArray)) : vLd (.agg n) (pt b o) w K :=
  rLdN (h.get hi) hn k
theorem sSt {b o i : Nat} {cs : List Value} {v : Value} {K : World → Prop} (h : Lx F w0 w L) (hi : L[i]? = some (.blk b cs)) (ho : o < cs.length) (hv : v.oneCell' = true) (hna : ∀ c, v ≠ .agg c)
    (k : ∀ w', Lx F w0 w' (L.set i (.blk b (cs.set o v))) → K w') : vSt (some 1) (pt b o) v w K :=
  rSt (h.get hi) ho hv hna fun w' u => k w' (h.step hi u.fr u.cs (fun _ e => .inl e))
theorem sStN {b o n i : Nat} {cs : List Value} {vs : Array Value} {K : World → Prop} (h : Lx F w0 w L) (hi : L[i]? = some (.blk b cs)) (hn : vs.size = n) (ho : o + n ≤ cs.length) (hv : ∀ x ∈ vs.toList, x.oneCell' = true)
    (k : ∀ w', Lx F w0 w' (L.set i (.blk b (spl cs o vs.toList))) → K w') : vSt (some n) (pt b o) (.agg vs) w K :=
  rStN (h.get hi) hn ho hv fun w' u => k w' (h.step hi u.fr u.cs (fun _ e => .inl e))

theorem sDraw {body : (World → Prop) → Prop} (h : Lx F w0 w L) (k : body fun W => Lx F w0 W L) : drawF w body := ⟨_, h.drew, k⟩
theorem sLdS {b o i : Nat} {cs : List Value} {v : Value} {K : Value → Prop} (hi : L[i]? = some (.blk b cs)) (hv : cs[o]? = some v) (k : K v) : vLdS (fun W => Lx F w0 W L) .one (pt b o) K :=
  rLdS v (fun W hW => ⟨cs, hW.get hi, hv⟩) k
theorem sLdSN {b n i : Nat} {cs : List Value} {K : Value → Prop} (hi : L[i]? = some (.blk b cs)) (hn : cs.length = n) (k : K (.agg cs.toArray)) : vLdS (fun W => Lx F w0 W L) (.agg n) (pt b 0) K := by
  refine ⟨cs, hn, fun w hw j v hj => ?_, k⟩
  rw [addr_add]
  have := Cs.cell (o := 0 + j) (hw.get hi) (by rw [Nat.zero_add]; exact hj)
  exact this

theorem sIf {c : Bool} {A B : Prop} (ha : c = true → A) (hb : c = false → B) : vBool (.bool c) fun c => if c = true then A else B := rIf ha hb
/-- a question of a whole number -/
theorem sIfD {p : Prop} [Decidable p] {A B : Prop} (ha : p → A) (hb : ¬ p → B) : vBool (.bool (decide p)) fun c => if c = true then A else B := rIf (fun h => ha (of_decide_eq_true h)) (fun h => hb (of_decide_eq_false h))
theorem sIfE {a b : Int} {A B : Prop} (ha : a = b → A) (hb : a ≠ b → B) : vBool (.bool (a == b)) fun c => if c = true then A else B := rIf (fun h => ha (by simpa using h)) (fun h => hb (by simpa using h))
theorem sIfNE {a b : Int} {A B : Prop} (ha : a ≠ b → A) (hb : a = b → B) : vBool (.bool (a != b)) fun c => if c = true then A else B := rIf (fun h => ha (by simpa using h)) (fun h => hb (by simpa using h))
theorem sIfS {a b : List UInt8} {A B : Prop} (ha : a = b → A) (hb : a ≠ b → B) : vBool (.bool (a == b)) fun c => if c = true then A else B := rIf (fun h => ha (by simpa using h)) (fun h => hb (by simpa using h))
theorem sIfNS {a b : List UInt8} {A B : Prop} (ha : a ≠ b → A) (hb : a = b → B) : vBool (.bool (!(a == b))) fun c => if c = true then A else B := rIf (fun h => ha (by simpa using h)) (fun h => hb (by simpa using h))
theorem sIfN {c : Bool} {A B : Prop} (ha : c = false → A) (hb : c = true → B) : vBool (.bool (!c)) fun c => if c = true then A else B := rIf (fun h => ha (by simpa using h)) (fun h => hb (by simpa using h))

/-- where ways meet: what is behind is proved for each way anew -/
theorem sJoin {sel : List Nat} {a : (List Value → List Nat → World → Prop) → Prop} {b : Env → List Nat → World → Prop} (h : a fun vs ds W => ∀ ρ, sel.map ρ = vs → b ρ ds W) : joinF sel a b :=
  ⟨_, h, fun ρ ds W hj => hj ρ rfl⟩

theorem sCv {k k' : IntKind} {n : Int} {K : Value → Prop} (h : K (.int k (k.wrap n))) : vConv (.int k) (.int k' n) K := h
theorem sAddS {a b : List UInt8} {K : Value → Prop} (hs : a.length + b.length < 9223372036854775808) (k : K (str (a ++ b))) : vBin .string .add (str a) (str b) K := by
  show _ < _ ∧ K _
  have e : (⟨a.toArray⟩ : ByteArray) ++ ⟨b.toArray⟩ = ⟨(a ++ b).toArray⟩ := by
    apply ByteArray.ext
    simp
  rw [e]
  exact ⟨by simpa [ByteArray.size] using hs, k⟩
theorem sRem {a b : Int} (hb : b ≠ 0) {K : Value → Prop} (k : K (it (a.tmod b))) : vBin (.int .i64) .rem (it a) (it b) K := ⟨rfl, hb, k⟩
theorem sQuo {a b : Int} (ha : 0 ≤ a) (ha2 : a < 9223372036854775808) (hb : 0 < b) {K : Value → Prop} (k : K (it (a.tdiv b))) : vBin (.int .i64) .quo (it a) (it b) K := by
  refine ⟨rfl, by omega, ?_⟩
  rw [Int.tdiv_eq_ediv_of_nonneg ha] at *
  have h1 : 0 ≤ a / b := Int.ediv_nonneg ha (by omega)
  have h2 : a / b ≤ a := Int.ediv_le_self b ha
  rw [wrap_id (by omega) (by omega)]
  exact k

theorem sExt2 {a b c : Value} {K : Value → Prop} (k : K c) : vExt (.tuple #[a, b, c]) 2 K := k
theorem sExt30 {a b c : Value} {K : Value → Prop} (k : K a) : vExt (.tuple #[a, b, c]) 0 K := k
theorem sExt31 {a b c : Value} {K : Value → Prop} (k : K b) : vExt (.tuple #[a, b, c]) 1 K := k

theorem sNilEq {K : Value → Prop} (k : K (.bool true)) : vBin .inil .eql .nilIface .nilIface K := k
theorem sNilNe {K : Value → Prop} (k : K (.bool false)) : vBin .inil .neq .nilIface .nilIface K := k
theorem sIfcEq {T : TypeId} {p : Value} {K : Value → Prop} (k : K (.bool false)) : vBin .inil .eql (.iface T p) .nilIface K := k
theorem sIfcNe {T : TypeId} {p : Value} {K : Value → Prop} (k : K (.bool true)) : vBin .inil .neq (.iface T p) .nilIface K := k

/-- rows -/
theorem Lx.row (h : Lx F w0 w L) {i : Nat} {v : Value} {xs : List Value} {bl : Option Nat} (hi : L[i]? = some (.row v xs bl)) : Row w v xs bl := h.get hi
theorem Lx.rowM (h : Lx F w0 w L) {i m : Nat} {v : Value} {xs : List (List Value)} {bl : Option Nat} (hi : L[i]? = some (.rowM m v xs bl)) : RowM m w v xs bl := h.get hi

theorem Lx.newRow (h : Lx F w0 w L) {v : Value} {xs : List Value} {b : Nat} (hr : Row w' v xs (some b)) (hb : w.heap.size ≤ b) (f : Fr (fun _ => False) w w') : Lx F w0 w' (.row v xs (some b) :: L) :=
  h.add (a := .row v xs (some b)) f hr (fun k e => by cases (show some b = some k from e); exact hb)
theorem Lx.nilRow (h : Lx F w0 w L) : Lx F w0 w (.row (.slice none 0 0) [] none :: L) :=
  h.add (a := .row (.slice none 0 0) [] none) (Fr.refl _ _) ⟨rfl, rfl⟩ (fun k e => by cases (show none = some k from e))
theorem Lx.nilRowM (h : Lx F w0 w L) (m : Nat) : Lx F w0 w (.rowM m (.slice none 0 0) [] none :: L) :=
  h.add (a := .rowM m (.slice none 0 0) [] none) (Fr.refl _ _) ⟨by simp, rfl, rfl⟩ (fun k e => by cases (show none = some k from e))

variable {t e : TypeId} {z : Value}

theorem sApp (E : E1 P t e z) {u : TypeId} (hu : srcK P u = true) {i : Nat} {s x : Value} {xs ys : List Value} {bl : Option Nat} {K : Value → World → Prop} (h : Lx F w0 w L) (hi : L[i]? = some (.row s xs bl)) (hx : Src w x ys) (hys : ∀ y ∈ ys, y.oneCell' = true) (hb : xs.length + ys.length ≤ 4194304)
    (k : ∀ w' v' bl', Lx F w0 w' (L.set i (.row v' (xs ++ ys) bl')) → (bl ≠ none → bl' ≠ none) → K v' w') : vAppend P t u s x w K :=
  E.app hu (h.row hi) hx hys hb fun w' v' bl' hr f hbl hne => k w' v' bl' (h.step (a' := .row v' (xs ++ ys) bl') hi f hr hbl) hne

/-- a slice of one element, laid for an append, and the append -/
theorem sApp1 (E : E1 P t e z) {i : Nat} {s x : Value} {xs : List Value} {bl : Option Nat} {K : Value → World → Prop} (h : Lx F w0 w L) (hi : L[i]? = some (.row s xs bl)) (hone : x.oneCell' = true) (hb : xs.length + 1 ≤ 4194304)
    (k : ∀ w' v' bl', Lx F w0 w' (L.set i (.row v' (xs ++ [x]) bl')) → (bl ≠ none → bl' ≠ none) → K v' w') : vBuildSlice P t 1 [(0, x)] w fun v w => vAppend P t t s v w K := by
  refine E.build1 (cells_one hone) fun w1 hr f hs => ?_
  have h1 := h.more f
  exact sApp E E.hu h1 hi hr.src (by intro y hy; rw [List.mem_singleton.1 hy]; exact hone) (by simpa using hb) k

theorem sAppM {m : Nat} {zs : List Value} (E : EN P t e m zs) (hm : m ≤ 1000) {i : Nat} {s x : Value} {y : List Value} {xs : List (List Value)} {bl : Option Nat} {K : Value → World → Prop} (h : Lx F w0 w L) (hi : L[i]? = some (.rowM m s xs bl)) (hx : x.cells.toList = y) (hy : y.length = m) (hy1 : ∀ v ∈ y, v.oneCell' = true) (hb : xs.length + 1 ≤ 4194304)
    (k : ∀ w' v' bl', Lx F w0 w' (L.set i (.rowM m v' (xs ++ [y]) bl')) → bl' ≠ none → K v' w') : vBuildSlice P t 1 [(0, x)] w fun v w => vAppend P t t s v w K := by
  refine E.build1 hx hy hm fun w1 hc f hs => ?_
  have h1 := h.more f
  exact E.app (h1.rowM hi) hc hy hy1 hb fun w' v' bl' hr f' hbl hne => k w' v' bl' (h1.step (a' := .rowM m v' (xs ++ [y]) bl') hi f' hr hbl) hne

/-! ### Slices of one cell an element: laid, cut, read -/

theorem fill_lit {n : Nat} {z : Value} : ∀ (ys done : List Value) (K : List Value → Prop), done.length + ys.length = n → (∀ y ∈ ys, y.oneCell' = true) → K (done ++ ys) →
    fillV (slPlace n 1) (done ++ List.replicate ys.length z) ((List.range' done.length ys.length).zip ys) K
  | [], done, K, _, _, k => by simpa [fillV] using k
  | y :: ys, done, K, hn, h1, k => by
    simp only [List.length_cons] at hn ⊢
    rw [List.range'_succ, List.zip_cons_cons]
    unfold fillV
    have hlt : Nat.blt done.length n = true := by simp; omega
    have hsp : slPlace n 1 done.length = some (done.length, 1) := by simp [slPlace, hlt]
    rw [hsp]
    refine ⟨by rw [cells_one (h1 y (by simp))]; rfl, ?_⟩
    have e1 : spl (done ++ List.replicate (ys.length + 1) z) done.length y.cells.toList = (done ++ [y]) ++ List.replicate ys.length z := by
      rw [cells_one (h1 y (by simp))]
      simp [spl, List.replicate_succ, List.append_assoc]
    rw [e1]
    have := fill_lit (n := n) (z := z) ys (done ++ [y]) K (by simp; omega) (fun v hv => h1 v (by simp [hv])) (by simpa using k)
    simpa using this

theorem sBuild (E : E1 P t e z) {K : Value → World → Prop} (h : Lx F w0 w L) (ys : List Value) (hone : ∀ y ∈ ys, y.oneCell' = true) (hn : ys.length ≤ 1000)
    (k : ∀ w' b, Lx F w0 w' (.row (sv b ys.length ys.length) ys (some b) :: L) → K (sv b ys.length ys.length) w') : vBuildSlice P t ys.length ((List.range' 0 ys.length).zip ys) w K := by
  obtain ⟨i, hi1, hi2, hi3⟩ := E.hi
  unfold vBuildSlice
  simp only [E.ht, E.hz, hi1, hi2]
  refine ⟨by omega, rfl, ?_⟩
  have e1 : repZ [z] ys.length = [] ++ List.replicate ys.length z := by rw [repZ_one]; rfl
  rw [e1]
  refine fill_lit ys [] _ (by simp) hone ?_
  refine k _ w.heap.size (h.newRow (w' := w.alloc (.cells ys.toArray e)) ⟨[], by simp, ?_⟩ (Nat.le_refl _) ((Fr.refl _ w).alloc _))
  rw [List.append_nil]
  exact Cs.new _ _ _

theorem sBuild1 (E : E1 P t e z) {K : Value → World → Prop} {x : Value} (h : Lx F w0 w L) (hone : x.oneCell' = true)
    (k : ∀ w' b, Lx F w0 w' (.row (sv b 1 1) [x] (some b) :: L) → K (sv b 1 1) w') : vBuildSlice P t 1 [(0, x)] w K :=
  sBuild E h [x] (by intro y hy; rw [List.mem_singleton.1 hy]; exact hone) (by simp) k
theorem sBuild3 (E : E1 P t e z) {K : Value → World → Prop} {x y u : Value} (h : Lx F w0 w L) (hx : x.oneCell' = true) (hy : y.oneCell' = true) (hu : u.oneCell' = true)
    (k : ∀ w' b, Lx F w0 w' (.row (sv b 3 3) [x, y, u] (some b) :: L) → K (sv b 3 3) w') : vBuildSlice P t 3 [(0, x), (1, y), (2, u)] w K :=
  sBuild E h [x, y, u] (by intro v hv; simp at hv; rcases hv with rfl | rfl | rfl <;> assumption) (by simp) k

theorem sCut {i m : Nat} {v : Value} {xs : List Value} {bl : Option Nat} {kd : IntKind} {K : Value → Prop} (h : Lx F w0 w L) (hi : L[i]? = some (.row v xs bl)) (hm : m ≤ xs.length)
    (k : ∀ v', Lx F w0 w (L.set i (.row v' (xs.take m) bl)) → K v') : vSlice (.slice 1) v none (some (.int kd m)) K := by
  have key : ∀ v', Row w v' (xs.take m) bl → K v' := fun v' hr => k v' (h.step (a' := .row v' (xs.take m) bl) hi (Fr.refl _ _) hr (fun k e => .inl e))
  exact row_cut (h.row hi) hm key

theorem Row.rd {v x : Value} {xs : List Value} {bl : Option Nat} {j : Nat} {kd : IntKind} {K : Value → Prop} (h : Row w v xs bl) (hx : xs[j]? = some x) (k : K x) : vIA (.slice 1) v (.int kd j) fun p => vLd .one p w K := by
  have hlt := (List.getElem?_eq_some_iff.1 hx).1
  cases bl with
  | none => obtain ⟨rfl, rfl⟩ := h; simp at hlt
  | some l =>
    obtain ⟨r, rfl, hc⟩ := h
    refine rIA hlt ?_
    rw [Nat.mul_one]
    exact rLd hc (by rw [List.getElem?_append_left hlt]; exact hx) k
theorem sIdx {i j : Nat} {v x : Value} {xs : List Value} {bl : Option Nat} {kd : IntKind} {K : Value → Prop} (h : Lx F w0 w L) (hi : L[i]? = some (.row v xs bl)) (hx : xs[j]? = some x) (k : K x) : vIA (.slice 1) v (.int kd j) fun p => vLd .one p w K :=
  (h.row hi).rd hx k
theorem Row.rdS {S : World → Prop} {v x : Value} {xs : List Value} {bl : Option Nat} {j : Nat} {kd : IntKind} {K : Value → Prop} (h : Row w v xs bl) (hS : ∀ W, S W → Row W v xs bl) (hx : xs[j]? = some x) (k : K x) : vIA (.slice 1) v (.int kd j) fun p => vLdS S .one p K := by
  have hlt := (List.getElem?_eq_some_iff.1 hx).1
  cases bl with
  | none => obtain ⟨rfl, rfl⟩ := h; simp at hlt
  | some l =>
    obtain ⟨r, rfl, hc⟩ := h
    refine rIA hlt ?_
    rw [Nat.mul_one]
    refine rLdS x (fun W hW => ?_) k
    obtain ⟨r2, e2, hc2⟩ := hS W hW
    exact ⟨_, hc2, by rw [List.getElem?_append_left hlt]; exact hx⟩
theorem sIdxS {i j : Nat} {v x : Value} {xs : List Value} {bl : Option Nat} {kd : IntKind} {K : Value → Prop} (h : Lx F w0 w L) (hi : L[i]? = some (.row v xs bl)) (hx : xs[j]? = some x) (k : K x) : vIA (.slice 1) v (.int kd j) fun p => vLdS (fun W => Lx F w0 W L) .one p K :=
  (h.row hi).rdS (fun W hW => hW.row hi) hx k
theorem sLen {es i : Nat} {v : Value} {xs : List Value} {bl : Option Nat} {K : Value → Prop} (h : Lx F w0 w L) (hi : L[i]? = some (.row v xs bl)) (k : K (it xs.length)) : vLen (.slice es) v K := by
  obtain ⟨_, _, a, c, rfl⟩ := (h.row hi).val
  exact k
theorem sOne {v : Value} {xs : List Value} {bl : Option Nat} (h : Row w v xs bl) : v.oneCell' = true := h.val.1

/-! ### Maps whose keys are strings -/

def MapS (w : World) (b : Nat) (ks : List (ByteArray × Value)) : Prop := ∃ es c, w.heap[b]? = some (.map es c) ∧ mapIs es ks
theorem MapS.fr {w w' : World} {b : Nat} {ks : List (ByteArray × Value)} {F : Nat → Prop} (h : MapS w b ks) (f : Fr F w w') (hn : ¬ F b) : MapS w' b ks := by
  obtain ⟨es, c, h1, h2⟩ := h
  exact ⟨es, c, f.get h1 hn, h2⟩
def As.mp (b : Nat) (ks : List (ByteArray × Value)) : As := ⟨fun k => k = b, fun w => MapS w b ks, fun w ⟨es, c, h, _⟩ k e => by subst e; exact lt_of_blk h, fun w w' F h f hn => h.fr f (hn b rfl)⟩

theorem Lx.mp (h : Lx F w0 w L) {i b : Nat} {ks : List (ByteArray × Value)} (hi : L[i]? = some (.mp b ks)) : MapS w b ks := h.get hi

theorem sMakeMap {K : Value → World → Prop} (h : Lx F w0 w L) (k : ∀ w' b, Lx F w0 w' (.mp b [] :: L) → K (.map (some b)) w') : vMakeMap none w K :=
  k _ _ (h.add (a := .mp w.heap.size []) ((Fr.refl _ w).alloc _) ⟨#[], 0, World.alloc_heap_new _ _, rfl⟩ (fun k e => by rw [show k = w.heap.size from e]; exact Nat.le_refl _))

theorem MapS.look {t kt et : TypeId} {z : Value} (hu : P.underlying t = some (.map kt et)) (hk : P.underlying kt = some .string) (hz : (P.info? et).bind (·.zero) = some z) {b : Nat} {ks : List (ByteArray × Value)} {s : ByteArray} {ok : Bool} {K : Value → Prop}
    (h : MapS w b ks) (k1 : ∀ v, mapAt s ks = some v → K (if ok then .tuple #[v, .bool true] else v)) (k2 : mapAt s ks = none → K (if ok then .tuple #[z, .bool false] else z)) : vLookup P t (.map (some b)) (.string s) ok w K := by
  obtain ⟨es, c, h1, h2⟩ := h
  unfold vLookup
  simp only [hu, h1, hz]
  refine ⟨hk, ks, h2, ?_⟩
  cases hm : mapAt s ks with
  | none => exact k2 hm
  | some v => exact k1 v hm

theorem sMapUpd {t kt et : TypeId} (hu : P.underlying t = some (.map kt et)) (hk : P.underlying kt = some .string) {i b : Nat} {ks : List (ByteArray × Value)} {s : ByteArray} {v : Value} {K : World → Prop}
    (h : Lx F w0 w L) (hi : L[i]? = some (.mp b ks)) (hn : mapAt s ks = none) (k : ∀ w', Lx F w0 w' (L.set i (.mp b (ks ++ [(s, v)]))) → K w') : vMapUpd P t (.map (some b)) (.string s) v w K := by
  obtain ⟨es, c, h1, h2⟩ := h.mp hi
  unfold vMapUpd
  simp only [hu, h1]
  refine ⟨hk, ⟨ks, h2, hn⟩, k _ (h.step (a' := .mp b (ks ++ [(s, v)])) hi ((Fr.refl _ w).put _ fun _ => rfl) ⟨_, _, World.putObj_heap_same (lt_of_blk h1), ?_⟩ (fun k e => .inl e))⟩
  unfold mapIs at h2 ⊢
  simp [h2]

end

end Go.V
