/-
  The engine, part 6: memory. Frames, and the rules of loads and stores. Own work.
-/
import Derived.Test.YtdkklhnleppfcaaGreatVD
import Derived.WalkKit
import Derived.ProofKit
import Derived.OpenShut
import Derived.ChangeMaps5
import Derived.Carry
import Derived.JoinedCond
import Derived.SliceStrings
set_option linter.unusedVariables false
set_option linter.unusedSimpArgs false

set_option linter.unusedVariables false
set_option linter.unusedSimpArgs false
namespace Go.V
open Go Go.RowKit

abbrev pt (b o : Nat) : Value := .pointer (some ⟨b, o, none⟩)
abbrev it (n : Int) : Value := .int .i64 n
abbrev sv (l n c : Nat) : Value := .slice (some ⟨l, 0, none⟩) n c

/-- Only blocks of F, and new ones, are other ones. -/
structure Fr (F : Nat → Prop) (w w' : World) : Prop where
  os : w'.os = w.os
  tape : w'.tape = w.tape
  output : w'.output = w.output
  size : w.heap.size ≤ w'.heap.size
  same : ∀ k, k < w.heap.size → ¬ F k → w'.heap[k]? = w.heap[k]?

theorem Fr.refl (F : Nat → Prop) (w : World) : Fr F w w := ⟨rfl, rfl, rfl, Nat.le_refl _, fun _ _ _ => rfl⟩

theorem Fr.trans {F G : Nat → Prop} {a b c : World} (h : Fr F a b) (k : Fr G b c) (hG : ∀ x, x < a.heap.size → G x → F x) : Fr F a c :=
  ⟨k.os.trans h.os, k.tape.trans h.tape, k.output.trans h.output, Nat.le_trans h.size k.size, fun x hx hF =>
    (k.same x (Nat.lt_of_lt_of_le hx h.size) (fun hg => hF (hG x hx hg))).trans (h.same x hx hF)⟩

theorem Fr.mono {F G : Nat → Prop} {a b : World} (h : Fr F a b) (hG : ∀ x, x < a.heap.size → F x → G x) : Fr G a b :=
  ⟨h.os, h.tape, h.output, h.size, fun k hk hn => h.same k hk fun hf => hn (hG k hk hf)⟩

theorem Fr.drew {F : Nat → Prop} {a b : World} (h : Fr F a b) : Fr F a b.drew := ⟨h.os, h.tape, h.output, h.size, h.same⟩

theorem blk_lt (w : World) (o : Obj) (k : Nat) (h : k < w.heap.size) : (w.alloc o).heap[k]? = w.heap[k]? := by
  show (w.heap.push o)[k]? = _
  rw [Array.getElem?_push, if_neg (Nat.ne_of_lt h)]

theorem Fr.alloc {F : Nat → Prop} {a b : World} (h : Fr F a b) (o : Obj) : Fr F a (b.alloc o) :=
  h.trans (G := fun _ => False) ⟨rfl, rfl, rfl, by simp, fun k hk _ => blk_lt b o k hk⟩ (by simp)

theorem Fr.put {F : Nat → Prop} {a b : World} (h : Fr F a b) {k : Nat} (o : Obj) (hk : k < a.heap.size → F k) : Fr F a (b.putObj k o) :=
  h.trans (G := fun x => x = k) ⟨rfl, rfl, rfl, by simp, fun x hx hn => World.putObj_heap_other hn⟩ (by rintro x hx rfl; exact hk hx)

theorem Fr.get {F : Nat → Prop} {a b : World} (h : Fr F a b) {k : Nat} {o : Obj} (ho : a.heap[k]? = some o) (hF : ¬ F k) : b.heap[k]? = some o := by
  rw [h.same k (Array.getElem?_eq_some_iff.1 ho).1 hF, ho]

theorem Fr.more {F : Nat → Prop} {a b c : World} (h : Fr F a b) (k : Fr (fun _ => False) b c) : Fr F a c := h.trans k fun _ _ => False.elim

theorem Fr.putBoth {a b : World} (h : Fr (fun _ => False) a b) {l : Nat} (hl : l < a.heap.size) (o : Obj) : Fr (fun _ => False) (a.putObj l o) (b.putObj l o) := by
  refine ⟨h.os, h.tape, h.output, by simpa using h.size, fun k hk _ => ?_⟩
  have hk' : k < a.heap.size := by simpa using hk
  by_cases e : k = l
  · subst e
    rw [World.putObj_heap_same hk', World.putObj_heap_same (Nat.lt_of_lt_of_le hk' h.size)]
  · rw [World.putObj_heap_other e, World.putObj_heap_other e, h.same k hk' id]

theorem lt_of_blk {w : World} {k : Nat} {o : Obj} (h : w.heap[k]? = some o) : k < w.heap.size := (Array.getElem?_eq_some_iff.1 h).1

/-- a block of plain cells -/
def Cs (w : World) (b : Nat) (cs : List Value) : Prop := ∃ T, w.heap[b]? = some (.cells cs.toArray T (0, 0))

theorem Cs.lt {w : World} {b : Nat} {cs : List Value} (h : Cs w b cs) : b < w.heap.size := let ⟨_, h⟩ := h; lt_of_blk h
theorem Cs.fr {w w' : World} {b : Nat} {cs : List Value} {F : Nat → Prop} (h : Cs w b cs) (hf : Fr F w w') (hF : ¬ F b) : Cs w' b cs := let ⟨T, h⟩ := h; ⟨T, hf.get h hF⟩
theorem Cs.same {w w' : World} {b : Nat} {cs : List Value} (h : Cs w b cs) (e : w'.heap[b]? = w.heap[b]?) : Cs w' b cs := let ⟨T, h⟩ := h; ⟨T, e.trans h⟩
theorem Cs.drew {w : World} {b : Nat} {cs : List Value} (h : Cs w b cs) : Cs w.drew b cs := h
theorem Cs.alloc {w : World} {b : Nat} {cs : List Value} (h : Cs w b cs) (o : Obj) : Cs (w.alloc o) b cs := h.same (blk_lt _ _ _ h.lt)
theorem Cs.new (w : World) (c : List Value) (T : TypeId) : Cs (w.alloc (.cells c.toArray T (0, 0))) w.heap.size c := ⟨T, World.alloc_heap_new _ _⟩
theorem Cs.new' (w : World) (c : Array Value) (T : TypeId) : Cs (w.alloc (.cells c T (0, 0))) w.heap.size c.toList := ⟨T, World.alloc_heap_new _ _⟩

/-- one block is other cells now, and nothing else -/
structure Up (w : World) (b : Nat) (cs : List Value) (w' : World) : Prop where
  fr : Fr (fun k => k = b) w w'
  size : w'.heap.size = w.heap.size
  cs : Cs w' b cs

theorem Cs.up {w w' : World} {b c : Nat} {cs ds : List Value} (h : Cs w b cs) (hu : Up w c ds w') (hn : b ≠ c) : Cs w' b cs := h.fr hu.fr hn

theorem Up.of_put {w : World} {b : Nat} {T T' : TypeId} {cs ds : List Value} (h : w.heap[b]? = some (.cells cs.toArray T (0, 0))) :
    Up w b ds (w.putObj b (.cells ds.toArray T' (0, 0))) :=
  ⟨(Fr.refl _ w).put _ (fun _ => rfl), by simp, T', World.putObj_heap_same (lt_of_blk h)⟩

theorem addr_add (b o n : Nat) : Addr.add ⟨b, o, none⟩ n = ⟨b, o + n, none⟩ := by
  unfold Addr.add
  split
  · rename_i h; subst h; rfl
  · rfl

/-! ### Rules -/
section
variable {P : Program} {w : World}

theorem rNil {b o : Nat} {K : Value → Prop} (k : K (pt b o)) : vNilP P (pt b o) K := k
theorem rFA {f b o : Nat} {K : Value → Prop} (k : K (pt b (o + f))) : vFA (some f) (pt b o) K := by
  show K _; rw [addr_add]; exact k
theorem rFA0 {f b : Nat} {K : Value → Prop} (k : K (pt b f)) : vFA (some f) (pt b 0) K := rFA (by rw [Nat.zero_add]; exact k)

theorem rLd {b o : Nat} {cs : List Value} {v : Value} {K : Value → Prop} (h : Cs w b cs) (hv : cs[o]? = some v) (k : K v) : vLd .one (pt b o) w K := by
  obtain ⟨T, h⟩ := h
  simp [vLd, ld1, World.cell?, h, hv, k]

theorem rLdN {b o n : Nat} {cs : List Value} {K : Value → Prop} (h : Cs w b cs) (hl : o + n ≤ cs.length) (k : K (.agg ((cs.drop o).take n).toArray)) : vLd (.agg n) (pt b o) w K := by
  obtain ⟨T, h⟩ := h
  refine ⟨(cs.drop o).take n, by simp; omega, ?_, k⟩
  intro j v hj
  rw [addr_add]
  simp only [World.cell?, h]
  rw [List.getElem?_take] at hj
  split at hj
  · simpa using hj
  · cases hj

theorem rSt {b o : Nat} {cs : List Value} {v : Value} {K : World → Prop} (h : Cs w b cs) (ho : o < cs.length) (hv : v.oneCell' = true) (hna : ∀ c, v ≠ .agg c)
    (k : ∀ w', Up w b (cs.set o v) w' → K w') : vSt (some 1) (pt b o) v w K := by
  obtain ⟨T, h⟩ := h
  have : st1 w ⟨b, o, none⟩ v K := by
    unfold st1
    simp only [h]
    refine ⟨by simp [Option.isSome] , by simpa using ho, by simp, hv, k _ ?_⟩
    rw [List.setIfInBounds_toArray]
    exact Up.of_put h
  unfold vSt
  split
  · rename_i heq _
    cases heq
    rename_i heq
    cases heq
    split
    · exact absurd rfl (hna _)
    · exact ⟨rfl, this⟩
  · rename_i hx; exact absurd rfl (hx _ _ rfl)

theorem rStN {b o n : Nat} {cs : List Value} {vs : Array Value} {K : World → Prop} (h : Cs w b cs) (hn : vs.size = n) (ho : o + n ≤ cs.length) (hv : ∀ x ∈ vs.toList, x.oneCell' = true)
    (k : ∀ w', Up w b (spl cs o vs.toList) w' → K w') : vSt (some n) (pt b o) (.agg vs) w K := by
  obtain ⟨T, h⟩ := h
  refine ⟨hn, ?_⟩
  unfold stN
  simp only [h]
  refine ⟨trivial, by simp; omega, by simp, hv, k _ ?_⟩
  exact Up.of_put h

theorem rIA {es l n c : Nat} {i : Nat} {K : Value → Prop} {kd : IntKind} (hi : i < n) (k : K (pt l (i * es))) : vIA (.slice es) (sv l n c) (.int kd i) K := by
  refine ⟨by omega, by omega, ?_⟩
  rw [addr_add, Nat.zero_add]; simpa using k

theorem rIAa {es len b o : Nat} {i : Nat} {K : Value → Prop} {kd : IntKind} (hi : i < len) (k : K (pt b (o + i * es))) : vIA (.arr len es) (pt b o) (.int kd i) K := by
  refine ⟨by omega, by omega, ?_⟩
  rw [addr_add]; simpa using k

theorem rAlloc {e : TypeId} {z : Array Value} {K : Value → World → Prop} (hz : zc P e = some z) (k : K (pt w.heap.size 0) (w.alloc (.cells z e))) : vAlloc P e w K := by
  unfold vAlloc; rw [hz]; exact k

theorem rLdS {S : World → Prop} {b o : Nat} {K : Value → Prop} (v : Value) (h : ∀ w, S w → ∃ cs, Cs w b cs ∧ cs[o]? = some v) (k : K v) : vLdS S .one (pt b o) K := by
  refine ⟨v, fun w hw => ?_, k⟩
  obtain ⟨cs, ⟨T, hT⟩, hv⟩ := h w hw
  simp [World.cell?, hT, hv]

theorem rLt {a b : Int} {K : Value → Prop} (k : K (.bool (decide (a < b)))) : vBin (.int .i64) .lss (it a) (it b) K := ⟨rfl, k⟩
theorem rGt {a b : Int} {K : Value → Prop} (k : K (.bool (decide (b < a)))) : vBin (.int .i64) .gtr (it a) (it b) K := ⟨rfl, k⟩
theorem rEq {a b : Int} {K : Value → Prop} (k : K (.bool (a == b))) : vBin (.int .i64) .eql (it a) (it b) K := ⟨rfl, k⟩
theorem rNe {a b : Int} {K : Value → Prop} (k : K (.bool (a != b))) : vBin (.int .i64) .neq (it a) (it b) K := ⟨rfl, k⟩

theorem wrap_id {n : Int} (h1 : -9223372036854775808 ≤ n) (h2 : n < 9223372036854775808) : IntKind.i64.wrap n = n := by
  have e : IntKind.i64.wrap n = if n % 18446744073709551616 ≥ 9223372036854775808 then n % 18446744073709551616 - 18446744073709551616 else n % 18446744073709551616 := by
    simp [IntKind.wrap, IntKind.signed, IntKind.bits]
  rw [e]
  split <;> omega

theorem rLe {a b : Int} {K : Value → Prop} (k : K (.bool (decide (a ≤ b)))) : vBin (.int .i64) .leq (it a) (it b) K := ⟨rfl, k⟩
theorem rGe {a b : Int} {K : Value → Prop} (k : K (.bool (decide (b ≤ a)))) : vBin (.int .i64) .geq (it a) (it b) K := ⟨rfl, k⟩
theorem rNot {b : Bool} {K : Value → Prop} (k : K (.bool (!b))) : vUn .not (.bool b) K := k
theorem rBool {b : Bool} {K : Bool → Prop} (k : K b) : vBool (.bool b) K := k
theorem rIf {c : Bool} {A B : Prop} (ha : c = true → A) (hb : c = false → B) : vBool (.bool c) fun c => if c = true then A else B := by
  cases c
  · exact hb rfl
  · exact ha rfl
theorem rIfT {A B : Prop} (h : A) : vBool (.bool true) fun c => if c = true then A else B := h
theorem rIfF {A B : Prop} (h : B) : vBool (.bool false) fun c => if c = true then A else B := h
theorem rMin2 {a b : Int} {K : Value → Prop} (k : K (it (if b < a then b else a))) : vMin (it a) [it b] K := k

theorem rBox {e : TypeId} {v : Value} {K : Value → World → Prop} (hv : v.cells = #[v]) (k : ∀ w', Cs w' w.heap.size [v] → Fr (fun _ => False) w w' → w'.heap.size = w.heap.size + 1 → K (pt w.heap.size 0) w') : vBox e v w K := by
  unfold vBox
  rw [hv]
  exact k _ (Cs.new' w #[v] e) ((Fr.refl _ w).alloc _) (by simp)
theorem rAllocT {e : TypeId} {z : Array Value} {K : Value → World → Prop} (hz : zc P e = some z) (k : ∀ w', w'.heap[w.heap.size]? = some (.cells z e (0, 0)) → Fr (fun _ => False) w w' → w'.heap.size = w.heap.size + 1 → K (pt w.heap.size 0) w') : vAlloc P e w K := by
  unfold vAlloc; rw [hz]; exact k _ (World.alloc_heap_new _ _) ((Fr.refl _ w).alloc _) (by simp)
theorem rSlA {n q lo hi : Nat} {k1 k2 : IntKind} {K : Value → Prop} (h1 : lo ≤ hi) (h2 : hi ≤ n) (h3 : lo < n) (k : K (.slice (some ⟨q, lo, none⟩) (hi - lo) (n - lo))) : vSlice (.arr n 1) (pt q 0) (some (.int k1 lo)) (some (.int k2 hi)) K := by
  refine ⟨by omega, by omega, by omega, by omega, ?_⟩
  simp only [Int.toNat_natCast]
  rw [if_neg (by omega), addr_add]
  simpa using k

theorem bex (l : List UInt8) (i j : Nat) : (⟨l.toArray⟩ : ByteArray).extract i j = ⟨((l.drop i).take (j - i)).toArray⟩ := by
  have h : ((⟨l.toArray⟩ : ByteArray).extract i j).data = ((l.drop i).take (j - i)).toArray := by
    rw [ByteArray.data_extract, List.extract_toArray]
  cases hb : (⟨l.toArray⟩ : ByteArray).extract i j
  rw [hb] at h
  simpa using h
theorem rSlStrLo {l : List UInt8} {i : Nat} {kd : IntKind} {K : Value → Prop} (h : i ≤ l.length) (k : K (.string ⟨(l.drop i).toArray⟩)) : vSlice .string (.string ⟨l.toArray⟩) (some (.int kd i)) none K := by
  refine ⟨by omega, by simp [ByteArray.size]; omega, ?_⟩
  simp only [Int.toNat_natCast]
  rw [bex]
  simpa [ByteArray.size, List.take_of_length_le] using k
theorem rSlStr {l : List UInt8} {i j : Nat} {k1 k2 : IntKind} {K : Value → Prop} (h : i ≤ j) (h2 : j ≤ l.length) (k : K (.string ⟨((l.drop i).take (j - i)).toArray⟩)) : vSlice .string (.string ⟨l.toArray⟩) (some (.int k1 i)) (some (.int k2 j)) K := by
  refine ⟨by omega, by simp [ByteArray.size]; omega, by omega, by omega, ?_⟩
  simp only [Int.toNat_natCast]
  rw [bex]
  exact k
theorem rSlStrHi {l : List UInt8} {j : Nat} {k2 : IntKind} {K : Value → Prop} (h2 : j ≤ l.length) (k : K (.string ⟨(l.take j).toArray⟩)) : vSlice .string (.string ⟨l.toArray⟩) none (some (.int k2 j)) K := by
  refine ⟨by omega, by simp [ByteArray.size]; omega, ?_⟩
  simp only [Int.toNat_natCast, bnd]
  rw [bex]
  simpa using k

theorem rUSDn {n c : Nat} {K : Value → Prop} (k : K (.pointer none)) : vUSD (.slice none n c) K := k
theorem rUSDs {a : Addr} {n c : Nat} {K : Value → Prop} (h : c ≠ 0) (k : K (.pointer (some a))) : vUSD (.slice (some a) n c) K := ⟨h, k⟩
theorem rLenS {es n c : Nat} {a : Option Addr} {K : Value → Prop} (k : K (it n)) : vLen (.slice es) (.slice a n c) K := k
theorem rLenB {l : List UInt8} {K : Value → Prop} (k : K (it l.length)) : vLen .string (.string ⟨l.toArray⟩) K := by
  show K _
  simpa [ByteArray.size] using k

theorem rAdd {a b : Int} {K : Value → Prop} (h1 : -9223372036854775808 ≤ a + b) (h2 : a + b < 9223372036854775808) (k : K (it (a + b))) : vBin (.int .i64) .add (it a) (it b) K :=
  ⟨rfl, by rw [wrap_id h1 h2]; exact k⟩
theorem rSub {a b : Int} {K : Value → Prop} (h1 : -9223372036854775808 ≤ a - b) (h2 : a - b < 9223372036854775808) (k : K (it (a - b))) : vBin (.int .i64) .sub (it a) (it b) K :=
  ⟨rfl, by rw [wrap_id h1 h2]; exact k⟩
end

end Go.V

/-
  The engine, part 7: rows of statements that say 'true'. Own work.
-/
set_option linter.unusedVariables false
namespace Go.V
open Go Go.RowKit Go.ChangeShapes Go.WideShapes Go.ChangeMaps Go.ChangeAt

theorem below_of_fr0 {w w' : World} (h : Fr (fun _ => False) w w') : Below w.heap.size w w' := ⟨h.os, h.tape, h.output, h.size, fun k hk => h.same k hk id⟩

theorem cell_fr {w w' : World} {a : Addr} {v : Value} (h : w.cell? a = some v) (f : Fr (fun _ => False) w w') : w'.cell? a = some v := by
  have hb : a.block < w.heap.size := by
    unfold World.cell? at h
    split at h
    · rename_i hq; exact lt_of_blk hq
    · cases h
  rw [World.cell?_of_block (w := w) (f.same _ hb id)]; exact h

theorem trodAll_keep {H : Type} {enc : TypeId × Value → H} {P : Program} (hl : laidOutB P = true) {W W' : World} (hb : Below W.heap.size W W') :
    ∀ (ts : List TypeId) (vs : List Value) (ds : List (DataW H)) (ps : List MemPlace), (∀ t ∈ ts, P.readableRec t = true ∧ t < P.types.size) → DataW.TrodAll enc P W 0 (fun _ => true) true ts vs ds ps → (∀ x ∈ ps, x.block < W.heap.size) →
      DataW.TrodAll enc P W' 0 (fun b => decide (b < W.heap.size)) true ts vs ds ps
  | [], vs, ds, ps, _, h, _ => by
    obtain ⟨rfl, rfl, rfl⟩ := trodAll_nil h
    exact trodAll_mk0
  | t :: ts, vs, ds, ps, hr, h, hlt => by
    obtain ⟨v, vs', d, ds', p, q, rfl, rfl, rfl, h0, h1⟩ := trodAll_cons h
    exact trodAll_cons_mk (Below.trod hl (hr t (by simp)).1 (hr t (by simp)).2 h0 hb (fun x hx => hlt x (by simp [hx])))
      (trodAll_keep hl hb ts vs' ds' q (fun u hu => hr u (by simp [hu])) h1 (fun x hx => hlt x (by simp [hx])))

theorem trodAll_len {H : Type} {enc : TypeId × Value → H} {P : Program} {W : World} {b : Nat} {sp : Nat → Bool} {hd : Bool} :
    ∀ (ts : List TypeId) (vs : List Value) (ds : List (DataW H)) (ps : List MemPlace), DataW.TrodAll enc P W b sp hd ts vs ds ps → ds.length = ts.length
  | [], vs, ds, ps, h => by
    obtain ⟨rfl, rfl, rfl⟩ := trodAll_nil h
    rfl
  | t :: ts, vs, ds, ps, h => by
    obtain ⟨v, vs', d, ds', p, q, rfl, rfl, rfl, h0, h1⟩ := trodAll_cons h
    simp [trodAll_len ts vs' ds' q h1]

theorem exists_list {α : Type} {P : Nat → α → Prop} : ∀ (n : Nat), (∀ i, i < n → ∃ o, P i o) → ∃ os : List α, os.length = n ∧ ∀ (i : Nat) o, os[i]? = some o → P i o
  | 0, _ => ⟨[], rfl, fun i o h => by simp at h⟩
  | n + 1, h => by
    obtain ⟨os, hl, ho⟩ := exists_list n fun i hi => h i (by omega)
    obtain ⟨x, hx⟩ := h n (by omega)
    refine ⟨os ++ [x], by simp [hl], fun i o hi => ?_⟩
    by_cases hlt : i < os.length
    · rw [List.getElem?_append_left hlt] at hi
      exact ho i o hi
    · rw [List.getElem?_append_right (by omega)] at hi
      have h0 : i - os.length = 0 := by
        have := (List.getElem?_eq_some_iff.1 hi).1
        simp only [List.length_singleton] at this
        omega
      rw [h0] at hi
      have : i = n := by omega
      subst this
      simp only [List.getElem?_cons_zero, Option.some.injEq] at hi
      subst hi
      exact hx

/-- may each of a function's parameters be read, and is what it answers one bool? -/
def lawB (P : Program) (f : Func) (tb : TypeId) : Bool :=
  laidOutB P && (f.params.toList.all fun t => P.readableRec t && Nat.blt t P.types.size) && (f.resultTypes.toList == [tb]) && (match P.underlying tb with | some .bool => true | _ => false)

theorem post_true {H : Type} {enc : TypeId × Value → H} {P : Program} {f : Func} {s : ChangeSpec} {W W' : World} {args : Array Value} {ds gs : List (DataW H)} {before : List MemPlace} (tb : TypeId) (hlaw : lawB P f tb = true) (hv : s.vars = [])
    (hs : ∀ (ds : List (DataW H)), ds.length = f.params.toList.length → s.fn H ds = { results := [.lit (.bool true)], args := ds })
    (hW : DataW.Whole enc P f.params.toList s.vars false W args.toList ds gs before) (hb : Below W.heap.size W W') : s.post enc P f false true false false W args (.bool true) W' := by
  unfold lawB at hlaw
  simp only [Bool.and_eq_true, beq_iff_eq, List.all_eq_true] at hlaw
  obtain ⟨⟨⟨hl, hp⟩, hr⟩, hbool⟩ := hlaw
  have hbool : P.underlying tb = some .bool := by
    revert hbool
    cases h : P.underlying tb with
    | none => intro h; cases h
    | some d => cases d <;> intro h <;> first | rfl | cases h
  have hW' := hW
  obtain ⟨p, q, hA, hV, rfl, hfz, hnd⟩ := hW
  rw [hv] at hV
  obtain ⟨rfl, rfl⟩ := trodVars_none hV
  have hf := hs (ds ++ []) (by rw [List.append_nil]; exact trodAll_len _ _ _ _ hA)
  have hlt : ∀ x ∈ p, x.block < W.heap.size := fun x hx => hW'.lt x (by simpa using hx)
  refine ⟨ds, [], p ++ [], [], p, [], hW', ?_, ?_, ?_, hb.frame _, fun h => by cases h⟩
  · rw [hf, hr]
    have hsz : f.resultTypes.size = 1 := by rw [← Array.length_toList, hr]; rfl
    rw [hsz]
    exact trodAll_cons_mk (shut_bool hbool _) trodAll_mk0
  · rw [hf]
    simp only [List.append_nil]
    exact trodAll_keep hl hb _ _ _ _ (fun t ht => ⟨(hp t ht).1, Nat.le_of_ble_eq_true (hp t ht).2⟩) hA hlt
  · rw [hf, hv]
    rfl

/-- a law of which a contract holds -/
theorem true_calls {H : Type} {enc : TypeId × Value → H} {P : Program} {fid : FuncId} {f : Func} {s : ChangeSpec} {W : World} {args : Array Value} {ds gs : List (DataW H)} {before : List MemPlace} (tb : TypeId) (hlaw : lawB P f tb = true) (hv : s.vars = [])
    (hs : ∀ (ds : List (DataW H)), ds.length = f.params.toList.length → s.fn H ds = { results := [.lit (.bool true)], args := ds })
    (hW : DataW.Whole enc P f.params.toList s.vars false W args.toList ds gs before)
    (hc : ∀ ps, DataW.TrodAll enc P W 0 (fun _ => true) true f.params.toList args.toList ds ps → Ret P fid args W fun v w' => v = .bool true ∧ Fr (fun _ => False) W w') :
    Calls P fid args W fun e W' => ∃ v, e = .returned v ∧ s.post enc P f false true false false W args v W' := by
  have hW' := hW
  obtain ⟨p, q, hA, _⟩ := hW
  refine (callsIn_wide.1 (hc p hA).2).mono fun e W' ⟨v, he, hv', hf⟩ => ?_
  subst hv'
  exact ⟨_, he, post_true tb hlaw hv hs hW' (below_of_fr0 hf)⟩

end Go.V

/-
  The engine, part 8: rows of cells (slices), strings, bytes. Own work.
-/
set_option linter.unusedVariables false
set_option linter.unusedSimpArgs false
namespace Go.V
open Go Go.RowKit

def Row (w : World) (v : Value) (xs : List Value) (bl : Option Nat) : Prop :=
  match bl with
  | none => v = .slice none 0 0 ∧ xs = []
  | some l => ∃ rest : List Value, v = sv l xs.length (xs.length + rest.length) ∧ Cs w l (xs ++ rest)

theorem Row.fr {w w' : World} {v : Value} {xs : List Value} {bl : Option Nat} {F : Nat → Prop} (h : Row w v xs bl) (hf : Fr F w w') (hF : ∀ k, bl = some k → ¬ F k) : Row w' v xs bl := by
  cases bl with
  | none => exact h
  | some l => obtain ⟨r, h1, h2⟩ := h; exact ⟨r, h1, h2.fr hf (hF l rfl)⟩

theorem Cs.cell {w : World} {b o : Nat} {cs : List Value} {v : Value} (h : Cs w b cs) (hv : cs[o]? = some v) : w.cell? ⟨b, o, none⟩ = some v := by
  obtain ⟨T, h⟩ := h
  simp [World.cell?, h, hv]

abbrev str (l : List UInt8) : Value := .string ⟨l.toArray⟩

theorem ret_of_calls {P : Program} {f : FuncId} {args : Array Value} {w : World} {K : Value → World → Prop} (hE : Enters P f) (h : Calls P f args w fun e w' => ∃ v, e = .returned v ∧ K v w') : Ret P f args w K :=
  ⟨hE, callsIn_wide.2 h⟩

theorem fr_of_below {w w' : World} (h : Below w.heap.size w w') : Fr (fun _ => False) w w' := ⟨h.os, h.tape, h.output, h.size, fun k hk _ => h.block k hk⟩
theorem below_of_fr {w w' : World} (h : Fr (fun _ => False) w w') : Below w.heap.size w w' := ⟨h.os, h.tape, h.output, h.size, fun k hk => h.same k hk id⟩

theorem rPNil {w : World} {K : Value → Prop} (k : K (.bool true)) : vPtr .eql (.pointer none) (.pointer none) w K := k
theorem rPNil' {w : World} {b o : Nat} {K : Value → Prop} (k : K (.bool false)) : vPtr .eql (pt b o) (.pointer none) w K := k
def RowT (T : TypeId) (w : World) (v : Value) (xs rest : List Value) (bl : Option Nat) : Prop :=
  match bl with
  | none => v = .slice none 0 0 ∧ xs = [] ∧ rest = []
  | some l => v = sv l xs.length (xs.length + rest.length) ∧ w.heap[l]? = some (.cells (xs ++ rest).toArray T (0, 0))

def Src (w : World) (x : Value) (xs : List Value) : Prop := lenV x = xs.length ∧ ∀ K : List Value → Prop, K xs → srcV 1 xs.length x w K

theorem src_slice {w : World} {q off len c : Nat} {cs : List Value} (h : Cs w q cs) (hl : off + len ≤ cs.length) : Src w (.slice (some ⟨q, off, none⟩) len c) ((cs.drop off).take len) := by
  have hlen : ((cs.drop off).take len).length = len := by simp; omega
  refine ⟨hlen.symm, fun K k => ⟨_, by simp, ?_, k⟩⟩
  intro j v hj
  rw [addr_add]
  obtain ⟨T, h⟩ := h
  simp only [World.cell?, h]
  rw [List.getElem?_take] at hj
  split at hj
  · simpa using hj
  · cases hj

theorem src_nil {w : World} {c : Nat} : Src w (.slice none 0 c) [] := ⟨rfl, fun K k => ⟨rfl, k⟩⟩

theorem src_str {w : World} (l : List UInt8) : Src w (str l) (l.map fun b => .int .u8 b.toNat) := by
  have : (str l : Value) = .string ⟨l.toArray⟩ := rfl
  refine ⟨by simp [lenV, ByteArray.size], fun K k => ?_⟩
  simp only [srcV, List.length_map]
  refine ⟨trivial, ?_⟩
  rw [List.take_of_length_le (by simp)]
  exact k

theorem rApp {P : Program} {t u e : TypeId} {i : TypeInfo} {z : Value} (ht : P.underlying t = some (.slice e)) (hi : P.info? e = some i) (hz : zc P e = some #[z]) (h1 : i.size = 1) (hu : srcK P u = true)
    {T : TypeId} {w : World} {s x : Value} {xs rest ys : List Value} {bl : Option Nat} {K : Value → World → Prop}
    (hs : RowT T w s xs rest bl) (hx : Src w x ys) (hys : ∀ y ∈ ys, y.oneCell' = true) (hb1 : (xs.length + ys.length) * i.bytes ≤ 140737488355328) (hb2 : xs.length + ys.length ≤ 140737488355328)
    (hK : ∀ w' v' rest' bl' T', RowT T' w' v' (xs ++ ys) rest' bl' → (T' = T ∨ T' = e) → Fr (fun k => bl = some k) w w' → (∀ k, bl' = some k → bl = some k ∨ w.heap.size ≤ k) → (ys ≠ [] → bl' ≠ none) → (bl ≠ none → bl' ≠ none) → K v' w') :
    vAppend P t u s x w K := by
  have key : ∀ (base : Option Addr) (n cap : Nat), s = .slice base n cap → n = xs.length →
      (n + ys.length ≤ cap → stMaybe w base (n * 1) ys (K (.slice base (n + ys.length) cap))) →
      (cap < n + ys.length → srcV 1 n s w fun olds => ∀ c, n + ys.length ≤ c → K (.slice (some ⟨w.heap.size, 0, none⟩) (n + ys.length) c) (w.drew.alloc (.cells (olds ++ ys ++ repZ [z] (c - (n + ys.length))).toArray e))) →
      vAppend P t u s x w K := by
    intro base n cap es hn ha hb
    subst es
    unfold vAppend
    simp only [ht, hi, hz, hu, h1, hx.1]
    refine ⟨by simp, hx.2 _ ⟨ha, fun hc => ⟨by rw [hn]; exact hb1, by omega, ?_⟩⟩⟩
    exact hb hc
  have grow : ∀ (c : Nat), xs.length + ys.length ≤ c → (∀ k, bl = some k → k < w.heap.size) → K (.slice (some ⟨w.heap.size, 0, none⟩) (xs.length + ys.length) c) (w.drew.alloc (.cells (xs ++ ys ++ repZ [z] (c - (xs.length + ys.length))).toArray e)) := by
    intro c hc hlt
    have hrl : (repZ [z] (c - (xs.length + ys.length))).length = c - (xs.length + ys.length) := by simp [repZ]
    refine hK _ _ (repZ [z] (c - (xs.length + ys.length))) (some w.heap.size) e ⟨?_, World.alloc_heap_new w.drew _⟩ (.inr rfl) ((Fr.refl _ w).drew.alloc _) ?_ (by simp) (by simp)
    · rw [hrl, List.length_append]
      have : xs.length + ys.length + (c - (xs.length + ys.length)) = c := by omega
      rw [this]
    · intro k hk; cases hk; exact .inr (Nat.le_refl _)
  cases bl with
  | none =>
    obtain ⟨rfl, rfl, rfl⟩ := hs
    refine key none 0 0 rfl rfl (fun h => ?_) (fun h => ?_)
    · have hy : ys = [] := List.length_eq_zero_iff.1 (by omega)
      subst hy
      exact hK w _ [] none T ⟨rfl, rfl, rfl⟩ (.inl rfl) (Fr.refl _ _) (by simp) (by simp) (by simp)
    · refine ⟨rfl, fun c hc => ?_⟩
      have := grow c (by simpa using hc) (by simp)
      simpa using this
  | some l =>
    obtain ⟨rfl, hl⟩ := hs
    refine key _ _ _ rfl rfl (fun h => ?_) (fun h => ?_)
    · simp only [stMaybe, addr_add, Nat.zero_add, Nat.mul_one]
      unfold stN
      simp only [hl]
      refine ⟨trivial, by simp; omega, by simp, hys, ?_⟩
      have esp : spl (xs ++ rest) xs.length ys = xs ++ ys ++ rest.drop ys.length := by
        simp [spl, List.drop_append, List.append_assoc]
      rw [esp]
      refine hK _ _ (rest.drop ys.length) (some l) T ⟨?_, World.putObj_heap_same (lt_of_blk hl)⟩ (.inl rfl) ((Fr.refl _ w).put _ fun _ => rfl) (fun k hk => .inl hk) (by simp) (by simp)
      have : xs.length + rest.length = (xs ++ ys).length + (rest.drop ys.length).length := by simp; omega
      rw [← this, List.length_append]
    · have hsrc := (src_slice (c := xs.length + rest.length) (len := xs.length) (off := 0) ⟨T, hl⟩ (by simp)).2
      have e0 : ((xs ++ rest).drop 0).take xs.length = xs := by simp
      rw [e0] at hsrc
      exact hsrc _ fun c hc => grow c hc (fun k hk => by cases hk; exact lt_of_blk hl)

def bts (l : List UInt8) : List Value := l.map fun b => .int .u8 b.toNat

theorem bts_len (l : List UInt8) : (bts l).length = l.length := by simp [bts]
theorem bts_app (l m : List UInt8) : bts (l ++ m) = bts l ++ bts m := by simp [bts]
theorem bts_one (l : List UInt8) : ∀ x ∈ bts l, x.oneCell' = true := by
  intro x hx
  obtain ⟨j, _, rfl⟩ := List.mem_map.1 hx
  rfl

theorem RowT.fr {T : TypeId} {w w' : World} {v : Value} {xs rest : List Value} {bl : Option Nat} {F : Nat → Prop} (h : RowT T w v xs rest bl) (hf : Fr F w w') (hF : ∀ k, bl = some k → ¬ F k) : RowT T w' v xs rest bl := by
  cases bl with
  | none => exact h
  | some l => exact ⟨h.1, hf.get h.2 (hF l rfl)⟩

theorem RowT.row {T : TypeId} {w : World} {v : Value} {xs rest : List Value} {bl : Option Nat} (h : RowT T w v xs rest bl) : Row w v xs bl := by
  cases bl with
  | none => exact ⟨h.1, h.2.1⟩
  | some l => exact ⟨rest, h.1, T, h.2⟩

theorem Row.rowT {w : World} {v : Value} {xs : List Value} {bl : Option Nat} (h : Row w v xs bl) : ∃ T rest, RowT T w v xs rest bl := by
  cases bl with
  | none => exact ⟨0, [], h.1, h.2, rfl⟩
  | some l => obtain ⟨rest, h1, T, h2⟩ := h; exact ⟨T, rest, h1, h2⟩

theorem putAll2 (ρ : Env) (i j : Nat) (x y : Value) : putAll ρ [i, j] [x, y] = put (put ρ (some i) x) (some j) y := rfl

theorem Fr.then2 {F G : Nat → Prop} {a b c : World} (h : Fr F a b) (k : Fr G b c) : Fr (fun x => F x ∨ G x) a c :=
  (h.mono fun _ _ => .inl).trans k fun _ _ => .inr

theorem Row.val {w : World} {v : Value} {xs : List Value} {bl : Option Nat} (h : Row w v xs bl) : v.oneCell' = true ∧ (∀ c, v ≠ .agg c) ∧ ∃ a c, v = .slice a xs.length c := by
  cases bl with
  | none => obtain ⟨rfl, rfl⟩ := h; exact ⟨rfl, by simp, _, _, rfl⟩
  | some l => obtain ⟨r, rfl, _⟩ := h; exact ⟨rfl, by simp, _, _, rfl⟩

theorem Row.lt {w : World} {v : Value} {xs : List Value} {bl : Option Nat} (h : Row w v xs bl) : ∀ k, bl = some k → k < w.heap.size := by
  rintro k rfl
  obtain ⟨_, _, h⟩ := h
  exact h.lt

theorem row_cut {w : World} {v : Value} {xs : List Value} {bl : Option Nat} {m : Nat} {K : Value → Prop} (h : Row w v xs bl) (hm : m ≤ xs.length) (hK : ∀ v', Row w v' (xs.take m) bl → K v') : vSlice (.slice 1) v none (some (it m)) K := by
  have ht : (xs.take m).length = m := by simp; omega
  cases bl with
  | none =>
    obtain ⟨rfl, rfl⟩ := h
    have : m = 0 := by simpa using hm
    subst this
    exact ⟨by omega, by simp, hK _ ⟨rfl, by simp⟩⟩
  | some l =>
    obtain ⟨rest, rfl, hl⟩ := h
    refine ⟨by omega, by omega, ?_⟩
    show K _
    have e : (if xs.length + rest.length = 0 then some (⟨l, 0, none⟩ : Addr) else (some (⟨l, 0, none⟩ : Addr)).map (·.add (0 * 1))) = some ⟨l, 0, none⟩ := by
      split
      · rfl
      · simp [Addr.add]
    rw [e]
    refine hK _ ⟨xs.drop m ++ rest, ?_, ?_⟩
    · rw [ht]
      have e2 : m + (xs.drop m ++ rest).length = xs.length + rest.length := by simp; omega
      rw [e2]
      simp
    · rw [← List.append_assoc, List.take_append_drop]; exact hl

theorem rExt0 {a b : Value} {K : Value → Prop} (k : K a) : vExt (.tuple #[a, b]) 0 K := k
theorem rExt1 {a b : Value} {K : Value → Prop} (k : K b) : vExt (.tuple #[a, b]) 1 K := k
theorem rSEq {l m : List UInt8} {K : Value → Prop} (k : K (.bool (l == m))) : vBin .string .eql (str l) (str m) K := k
theorem rSNe {l m : List UInt8} {K : Value → Prop} (k : K (.bool (!(l == m)))) : vBin .string .neq (str l) (str m) K := k

theorem beq_self_list (l : List UInt8) : (l == l) = true := by simp

theorem rIxS {l : List UInt8} {k : Nat} {b : UInt8} {d : LD} {kd : IntKind} {K : Value → Prop} (h : l[k]? = some b) (hK : K (.int .u8 b.toNat)) : vIx .string d (str l) (.int kd k) K := by
  unfold vIx
  refine ⟨by omega, ?_⟩
  simp only [Int.toNat_natCast, h]
  exact hK

theorem rNe8 {a b : Int} {K : Value → Prop} (k : K (.bool (a != b))) : vBin (.int .u8) .neq (.int .u8 a) (.int .u8 b) K := ⟨rfl, k⟩

def Bs (w : World) (v : Value) (l : List UInt8) (bl : Option Nat) : Prop := Row w v (bts l) bl

theorem Bs.fr {w w' : World} {v : Value} {l : List UInt8} {bl : Option Nat} {F : Nat → Prop} (h : Bs w v l bl) (hf : Fr F w w') (hF : ∀ k, bl = some k → ¬ F k) : Bs w' v l bl := Row.fr h hf hF
theorem Bs.more {w w' : World} {v : Value} {l : List UInt8} {bl : Option Nat} (h : Bs w v l bl) (hf : Fr (fun _ => False) w w') : Bs w' v l bl := h.fr hf fun _ _ => id
theorem Bs.lt {w : World} {v : Value} {l : List UInt8} {bl : Option Nat} (h : Bs w v l bl) : ∀ k, bl = some k → k < w.heap.size := by
  rintro k rfl
  obtain ⟨r, h1, h2⟩ := h
  exact h2.lt

theorem bts_nil {l : List UInt8} (h : bts l = []) : l = [] := by simpa [bts] using h

theorem Bs.shape {w : World} {v : Value} {l : List UInt8} {bl : Option Nat} (h : Bs w v l bl) : ∃ a c, v = .slice a l.length c := by
  cases bl with
  | none => obtain ⟨h1, h2⟩ := h; have := bts_nil h2
            subst this; exact ⟨_, _, h1⟩
  | some k => obtain ⟨r, h1, h2⟩ := h; rw [bts_len] at h1; exact ⟨_, _, h1⟩

theorem Bs.lenE {w : World} {v : Value} {l : List UInt8} {bl : Option Nat} (h : Bs w v l bl) {K : Value → Prop} (k : K (it l.length)) : vLen (.slice 1) v K := by
  obtain ⟨a, c, rfl⟩ := h.shape
  exact k

theorem Bs.read {w : World} {v : Value} {l : List UInt8} {bl : Option Nat} (h : Bs w v l bl) {i : Nat} {x : UInt8} (hx : l[i]? = some x) {kd : IntKind} {K : Value → Prop} (k : K (.int .u8 x.toNat)) :
    vIA (.slice 1) v (.int kd i) fun p => vLd .one p w K := by
  have hi := (List.getElem?_eq_some_iff.1 hx).1
  cases bl with
  | none => obtain ⟨h1, h2⟩ := h; have := bts_nil h2
            subst this; simp at hi
  | some q =>
    obtain ⟨r, rfl, h2⟩ := h
    refine rIA (by rw [bts_len]; exact hi) ?_
    refine rLd h2 (v := .int .u8 x.toNat) ?_ k
    rw [Nat.mul_one, List.getElem?_append_left (by rw [bts_len]; exact hi)]
    simp [bts, hx]

theorem b2s_at {w : World} {q off n c : Nat} {cs : List Value} {l : List UInt8} (h : Cs w q cs) (hn : l.length = n) (hl : ∀ (j : Nat) (b : UInt8), l[j]? = some b → cs[off + j]? = some (.int .u8 b.toNat)) {K : Value → Prop} (k : K (str l)) :
    vB2S (.slice (some ⟨q, off, none⟩) n c) w K := by
  refine ⟨l, hn, ?_, k⟩
  intro j b hj
  rw [addr_add]
  exact Cs.cell h (hl j b hj)

theorem Bs.toStr {w : World} {v : Value} {l : List UInt8} {bl : Option Nat} (h : Bs w v l bl) {K : Value → Prop} (k : K (str l)) : vB2S v w K := by
  cases bl with
  | none => obtain ⟨rfl, h2⟩ := h; have := bts_nil h2
            subst this; exact k
  | some q =>
    obtain ⟨r, rfl, h2⟩ := h
    refine b2s_at h2 (by rw [bts_len]) (fun j b hj => ?_) k
    rw [Nat.zero_add, List.getElem?_append_left (by rw [bts_len]; exact (List.getElem?_eq_some_iff.1 hj).1)]
    simp [bts, hj]

theorem Bs.cut {w : World} {v : Value} {l : List UInt8} {bl : Option Nat} (h : Bs w v l bl) {a k : Nat} {k1 k2 : IntKind} (hak : a + k ≤ l.length) {K : Value → Prop} (kk : K (str ((l.drop a).take k))) :
    vSlice (.slice 1) v (some (.int k1 a)) (some (.int k2 ((a + k : Nat) : Int))) fun u => vB2S u w K := by
  cases bl with
  | none =>
    obtain ⟨rfl, h2⟩ := h; have := bts_nil h2
    subst this
    have : a = 0 := by simp at hak; omega
    subst this
    have : k = 0 := by simp at hak; omega
    subst this
    refine ⟨by omega, by omega, by omega, by omega, ?_⟩
    have kk' : K (str []) := by simpa using kk
    have : vB2S (.slice none 0 0) w K := kk'
    simpa using this
  | some q =>
    obtain ⟨r, rfl, h2⟩ := h
    rw [bts_len]
    refine ⟨by omega, by omega, by omega, by omega, ?_⟩
    simp only [Int.toNat_natCast, Nat.add_sub_cancel_left]
    by_cases hk : k = 0
    · subst hk
      have : ∀ A c, vB2S (.slice (some A) 0 c) w K := fun A c => ⟨[], rfl, by simp, by simpa using kk⟩
      split
      · exact this _ _
      · exact this _ _
    · rw [if_neg (by omega)]
      show vB2S (.slice (some (Addr.add ⟨q, 0, none⟩ (a * 1))) k _) w K
      rw [addr_add]
      refine b2s_at h2 (by simp; omega) (fun j b hj => ?_) kk
      rw [List.getElem?_take] at hj
      split at hj
      · rw [List.getElem?_drop] at hj
        have := (List.getElem?_eq_some_iff.1 hj).1
        rw [List.getElem?_append_left (by rw [bts_len]; omega)]
        simp [bts, hj]
      · cases hj

theorem Bs.write {w : World} {q : Nat} {v : Value} {l : List UInt8} (h : Bs w v l (some q)) {i : Nat} {x : UInt8} (hi : i < l.length) {kd : IntKind} {K : World → Prop}
    (k : ∀ w', Bs w' v (l.set i x) (some q) → Fr (fun k => k = q) w w' → w'.heap.size = w.heap.size → K w') : vIA (.slice 1) v (.int kd i) fun p => vSt (some 1) p (.int .u8 x.toNat) w K := by
  obtain ⟨r, rfl, h2⟩ := h
  refine rIA (by rw [bts_len]; exact hi) ?_
  refine rSt h2 (by simp [bts_len]; omega) rfl (by simp) ?_
  intro w' u
  refine k w' ⟨r, by simp [bts], ?_⟩ u.fr u.size
  have : bts (l.set i x) ++ r = (bts l ++ r).set (i * 1) (.int .u8 x.toNat) := by
    rw [Nat.mul_one, List.set_append_left _ _ (by rw [bts_len]; exact hi)]
    simp [bts, List.map_set]
  rw [this]
  exact u.cs

theorem Bs.src {w : World} {v : Value} {l : List UInt8} {bl : Option Nat} (h : Bs w v l bl) : Src w v (bts l) := by
  cases bl with
  | none => obtain ⟨rfl, h2⟩ := h; rw [h2]; exact src_nil
  | some q =>
    obtain ⟨r, rfl, h2⟩ := h
    have := src_slice (off := 0) (len := (bts l).length) (c := (bts l).length + r.length) h2 (by simp)
    simpa using this

theorem repZ_one (v : Value) (n : Nat) : repZ [v] n = List.replicate n v := by
  unfold repZ
  induction n with
  | zero => rfl
  | succ n ih => simp [List.replicate_succ, ih]

theorem bts_rep (n : Nat) : repZ [Value.int .u8 0] n = bts (List.replicate n 0) := by
  unfold repZ bts
  induction n with
  | zero => rfl
  | succ n ih => simp [List.replicate_succ] at ih ⊢

theorem u8_of (n : Nat) : (UInt8.ofNat n).toNat = n % 256 := by simp

theorem wrap_u64 {n : Int} (h0 : 0 ≤ n) (h1 : n < 18446744073709551616) : IntKind.u64.wrap n = n := by
  have e : IntKind.u64.wrap n = n % 18446744073709551616 := by simp [IntKind.wrap, IntKind.signed, IntKind.bits]
  rw [e]; omega

theorem wrap_u8 (n : Nat) : IntKind.u8.wrap n = ((UInt8.ofNat n).toNat : Nat) := by
  have e : IntKind.u8.wrap (n : Int) = (n : Int) % 256 := by simp [IntKind.wrap, IntKind.signed, IntKind.bits]
  rw [e, u8_of]; omega

theorem or_add {x b i : Nat} (h : x < 2 ^ i) : x ||| b * 2 ^ i = x + b * 2 ^ i := by
  rw [Nat.or_comm, Nat.mul_comm, ← Nat.two_pow_add_eq_or_of_lt h, Nat.add_comm]

theorem rCv {k k' : IntKind} {n : Int} {K : Value → Prop} (h : K (.int k (k.wrap n))) : vConv (.int k) (.int k' n) K := h

theorem rSlA0 {n es q o : Nat} {K : Value → Prop} (h : n ≠ 0) (k : K (.slice (some ⟨q, o, none⟩) n n)) : vSlice (.arr n es) (pt q o) none none K := by
  show K (.slice (some (if n = 0 then ⟨q, o, none⟩ else Addr.add ⟨q, o, none⟩ (0 * es))) (n - 0) (n - 0))
  rw [if_neg h, addr_add]
  simpa using k

theorem infoOf {P : Program} {e n : Nat} (h : (P.info? e).map (fun i => (i.size, Nat.ble i.bytes 32)) = some (n, true)) : ∃ i, P.info? e = some i ∧ i.size = n ∧ i.bytes ≤ 32 := by
  obtain ⟨i, h1, h2⟩ := Option.map_eq_some_iff.1 h
  simp only [Prod.mk.injEq] at h2
  exact ⟨i, h1, h2.1, Nat.le_of_ble_eq_true h2.2⟩


theorem rowLt {w : World} {v : Value} {xs : List Value} {q : Nat} (h : Row w v xs (some q)) : q < w.heap.size := let ⟨_, _, h⟩ := h; h.lt

theorem Row.src {w : World} {v : Value} {xs : List Value} {bl : Option Nat} (h : Row w v xs bl) : Src w v xs := by
  cases bl with
  | none => obtain ⟨rfl, rfl⟩ := h; exact src_nil
  | some q =>
    obtain ⟨r, rfl, h2⟩ := h
    have := src_slice (off := 0) (len := xs.length) (c := xs.length + r.length) h2 (by simp)
    simpa using this

theorem rBoxA {e : TypeId} {cs : Array Value} {w : World} {K : Value → World → Prop} (k : ∀ w', Cs w' w.heap.size cs.toList → Fr (fun _ => False) w w' → w'.heap.size = w.heap.size + 1 → K (pt w.heap.size 0) w') : vBox e (.agg cs) w K :=
  k _ (Cs.new' w cs e) ((Fr.refl _ w).alloc _) (by simp)

structure E1 (P : Program) (t e : TypeId) (z : Value) : Prop where
  ht : P.underlying t = some (.slice e)
  hi : ∃ i, P.info? e = some i ∧ i.size = 1 ∧ i.bytes ≤ 32
  hz : zc P e = some #[z]
  hu : srcK P t = true

section
variable {P : Program} {t e : TypeId} {z : Value} (E : E1 P t e z) {w : World} {K : Value → World → Prop}
include E

theorem E1.build0 (hK : ∀ w', Row w' (sv w.heap.size 0 0) [] (some w.heap.size) → Fr (fun _ => False) w w' → w'.heap.size = w.heap.size + 1 → K (sv w.heap.size 0 0) w') : vBuildSlice P t 0 [] w K := by
  obtain ⟨i, hi1, hi2, hi3⟩ := E.hi
  unfold vBuildSlice
  simp only [E.ht, E.hz, hi1, hi2]
  refine ⟨by decide, rfl, ?_⟩
  exact hK _ ⟨[], rfl, Cs.new _ [] e⟩ ((Fr.refl _ w).alloc _) (by simp)

theorem E1.build1 {x : Value} (hx : x.cells = #[x]) (hK : ∀ w', Row w' (sv w.heap.size 1 1) [x] (some w.heap.size) → Fr (fun _ => False) w w' → w'.heap.size = w.heap.size + 1 → K (sv w.heap.size 1 1) w') : vBuildSlice P t 1 [(0, x)] w K := by
  obtain ⟨i, hi1, hi2, hi3⟩ := E.hi
  unfold vBuildSlice
  simp only [E.ht, E.hz, hi1, hi2]
  refine ⟨by decide, rfl, ?_⟩
  simp only [fillV, slPlace, Nat.blt, Nat.ble, cond_true]
  refine ⟨by rw [hx]; rfl, ?_⟩
  simp only [hx, spl, repZ]
  exact hK _ ⟨[], rfl, Cs.new _ [x] e⟩ ((Fr.refl _ w).alloc _) (by simp)

theorem E1.mks {n : Nat} {kd1 kd2 : IntKind} (hn : n ≤ 4194304) (hK : ∀ w', Row w' (sv w.heap.size n n) (List.replicate n z) (some w.heap.size) → Fr (fun _ => False) w w' → w'.heap.size = w.heap.size + 1 → K (sv w.heap.size n n) w') :
    vMakeSlice P t (.int kd1 n) (.int kd2 n) w K := by
  obtain ⟨i, hi1, hi2, hi3⟩ := E.hi
  unfold vMakeSlice
  simp only [E.ht, E.hz, hi1]
  have hb : n * i.bytes ≤ 4194304 * 32 := Nat.mul_le_mul hn hi3
  refine ⟨by omega, by omega, by omega, by rw [← Int.natCast_mul]; omega, hi2.symm, ?_⟩
  rw [Int.toNat_natCast, repZ_one]
  refine hK _ ⟨[], by simp, ?_⟩ ((Fr.refl _ w).alloc _) (by simp)
  rw [List.append_nil]
  exact Cs.new _ _ e

theorem E1.app {u : TypeId} (hu : srcK P u = true) {s x : Value} {xs ys : List Value} {bl : Option Nat} (hs : Row w s xs bl) (hx : Src w x ys) (hys : ∀ y ∈ ys, y.oneCell' = true) (hb : xs.length + ys.length ≤ 4194304)
    (hK : ∀ w' v' bl', Row w' v' (xs ++ ys) bl' → Fr (fun k => bl = some k) w w' → (∀ k, bl' = some k → bl = some k ∨ w.heap.size ≤ k) → (bl ≠ none → bl' ≠ none) → K v' w') : vAppend P t u s x w K := by
  obtain ⟨i, hi, his, hib⟩ := E.hi
  obtain ⟨T, rest, hrow⟩ := Row.rowT hs
  have hbb : (xs.length + ys.length) * i.bytes ≤ 4194304 * 32 := Nat.mul_le_mul hb hib
  refine rApp E.ht hi E.hz his hu hrow hx hys (by omega) (by omega) ?_
  intro w' v' rest' bl' T' h' _ fr hbl _ hne
  exact hK w' v' bl' h'.row fr hbl hne

end

/- bytes -/
/-! ### Rows of m cells an element -/

theorem flat_len {m : Nat} : ∀ {xs : List (List Value)}, (∀ x ∈ xs, x.length = m) → xs.flatten.length = xs.length * m
  | [], _ => by simp
  | x :: xs, h => by
    rw [List.flatten_cons, List.length_append, h x (by simp), flat_len (fun y hy => h y (by simp [hy])), List.length_cons, Nat.succ_mul]; omega

theorem flat_get {m : Nat} : ∀ {xs : List (List Value)} (rest : List Value), (∀ x ∈ xs, x.length = m) → ∀ {i : Nat} {x : List Value}, xs[i]? = some x → ((xs.flatten ++ rest).drop (i * m)).take m = x
  | [], _, _, i, x, hi => by simp at hi
  | y :: xs, rest, h, 0, x, hi => by
    simp at hi; subst hi
    have := h y (by simp)
    simp [← this]
  | y :: xs, rest, h, i + 1, x, hi => by
    have hy := h y (by simp)
    have := flat_get rest (fun z (hz : z ∈ xs) => h z (List.mem_cons_of_mem _ hz)) (i := i) (x := x) (by simpa using hi)
    rw [List.flatten_cons, List.append_assoc, Nat.succ_mul, Nat.add_comm, ← List.drop_drop]
    have e : (y ++ (xs.flatten ++ rest)).drop m = xs.flatten ++ rest := by rw [← hy]; simp
    rw [e]; exact this

theorem flat_cell {m : Nat} {xs : List (List Value)} (rest : List Value) (h : ∀ x ∈ xs, x.length = m) {i j : Nat} {x : List Value} {v : Value} (hi : xs[i]? = some x) (hj : x[j]? = some v) : (xs.flatten ++ rest)[i * m + j]? = some v := by
  have e := flat_get rest h hi
  have hx := h x (List.mem_of_getElem? hi)
  have hjm : j < m := by rw [← hx]; exact (List.getElem?_eq_some_iff.1 hj).1
  rw [← e, List.getElem?_take, if_pos hjm, List.getElem?_drop] at hj
  exact hj

def RowM (m : Nat) (w : World) (v : Value) (xs : List (List Value)) (bl : Option Nat) : Prop :=
  (∀ x ∈ xs, x.length = m) ∧ match bl with
  | none => v = .slice none 0 0 ∧ xs = []
  | some l => ∃ (r : Nat) (rest : List Value), rest.length = r * m ∧ v = sv l xs.length (xs.length + r) ∧ Cs w l (xs.flatten ++ rest)

theorem RowM.fr {m : Nat} {w w' : World} {v : Value} {xs : List (List Value)} {bl : Option Nat} {F : Nat → Prop} (h : RowM m w v xs bl) (hf : Fr F w w') (hF : ∀ k, bl = some k → ¬ F k) : RowM m w' v xs bl := by
  refine ⟨h.1, ?_⟩
  cases bl with
  | none => exact h.2
  | some l => obtain ⟨r, rest, h1, h2, h3⟩ := h.2; exact ⟨r, rest, h1, h2, h3.fr hf (hF l rfl)⟩
theorem RowM.more {m : Nat} {w w' : World} {v : Value} {xs : List (List Value)} {bl : Option Nat} (h : RowM m w v xs bl) (hf : Fr (fun _ => False) w w') : RowM m w' v xs bl := h.fr hf fun _ _ => id
theorem RowM.lt {m : Nat} {w : World} {v : Value} {xs : List (List Value)} {bl : Option Nat} (h : RowM m w v xs bl) : ∀ k, bl = some k → k < w.heap.size := by
  rintro k rfl
  obtain ⟨_, _, _, _, h3⟩ := h.2
  exact h3.lt
theorem RowM.shape {m : Nat} {w : World} {v : Value} {xs : List (List Value)} {bl : Option Nat} (h : RowM m w v xs bl) : ∃ a c, v = .slice a xs.length c := by
  cases bl with
  | none => obtain ⟨_, rfl, rfl⟩ := h; exact ⟨none, 0, rfl⟩
  | some l => obtain ⟨r, rest, h1, h2, h3⟩ := h.2; exact ⟨_, _, h2⟩
theorem RowM.lenE {m es : Nat} {w : World} {v : Value} {xs : List (List Value)} {bl : Option Nat} (h : RowM m w v xs bl) {K : Value → Prop} (k : K (it xs.length)) : vLen (.slice es) v K := by
  obtain ⟨a, c, rfl⟩ := h.shape
  exact k
/-- an element's place, and its block -/
theorem RowM.at {m : Nat} {w : World} {v : Value} {xs : List (List Value)} {bl : Option Nat} (h : RowM m w v xs bl) {i : Nat} {x : List Value} (hi : xs[i]? = some x) {kd : IntKind} {K : Value → Prop}
    (k : ∀ l cs, bl = some l → Cs w l cs → ((cs.drop (i * m)).take m = x) → i * m + m ≤ cs.length → (∀ j v, x[j]? = some v → cs[i * m + j]? = some v) → K (pt l (i * m))) : vIA (.slice m) v (.int kd i) K := by
  have hlt := (List.getElem?_eq_some_iff.1 hi).1
  cases bl with
  | none => obtain ⟨_, rfl, rfl⟩ := h; simp at hlt
  | some l =>
    obtain ⟨r, rest, h1, rfl, h3⟩ := h.2
    refine rIA hlt (k l _ rfl h3 (flat_get rest h.1 hi) ?_ (fun j v hj => flat_cell rest h.1 hi hj))
    rw [List.length_append, flat_len h.1]
    have : (i + 1) * m ≤ xs.length * m := Nat.mul_le_mul_right _ hlt
    rw [Nat.succ_mul] at this
    omega

/-- t: slices of e, m cells an element -/
structure EN (P : Program) (t e : TypeId) (m : Nat) (z : List Value) : Prop where
  ht : P.underlying t = some (.slice e)
  hi : ∃ i, P.info? e = some i ∧ i.size = m ∧ i.bytes ≤ 64
  hz : zc P e = some z.toArray
  hm : z.length = m
  hu : srcK P t = true

theorem infoOf64 {P : Program} {e n : Nat} (h : (P.info? e).map (fun i => (i.size, Nat.ble i.bytes 64)) = some (n, true)) : ∃ i, P.info? e = some i ∧ i.size = n ∧ i.bytes ≤ 64 := by
  obtain ⟨i, h1, h2⟩ := Option.map_eq_some_iff.1 h
  simp only [Prod.mk.injEq] at h2
  exact ⟨i, h1, h2.1, Nat.le_of_ble_eq_true h2.2⟩

theorem repZ_len {z : List Value} {m n : Nat} (h : z.length = m) : (repZ z n).length = n * m := by
  unfold repZ
  have := flat_len (m := m) (xs := List.replicate n z) (by intro x hx; rw [(List.mem_replicate.1 hx).2, h])
  rw [this, List.length_replicate]

section
variable {P : Program} {t e : TypeId} {m : Nat} {z : List Value} (E : EN P t e m z) {w : World} {K : Value → World → Prop}
include E

theorem EN.build1 {x : Value} {y : List Value} (hx : x.cells.toList = y) (hy : y.length = m) (hm : m ≤ 1000) (hK : ∀ w', Cs w' w.heap.size y → Fr (fun _ => False) w w' → w'.heap.size = w.heap.size + 1 → K (sv w.heap.size 1 1) w') : vBuildSlice P t 1 [(0, x)] w K := by
  obtain ⟨i, hi1, hi2, hi3⟩ := E.hi
  unfold vBuildSlice
  simp only [E.ht, E.hz, hi1, hi2]
  refine ⟨by omega, by simp [E.hm], ?_⟩
  simp only [fillV, slPlace, Nat.blt, Nat.ble, cond_true]
  refine ⟨by rw [← Array.length_toList, hx, hy], ?_⟩
  have e1 : spl (repZ z.toArray.toList 1) (0 * m) x.cells.toList = y := by
    simp [spl, repZ, hx, hy, E.hm]
  rw [e1]
  exact hK _ (Cs.new _ y e) ((Fr.refl _ w).alloc _) (by simp)

theorem EN.app {s : Value} {xs : List (List Value)} {y : List Value} {q : Nat} {bl : Option Nat} (hs : RowM m w s xs bl) (hq : Cs w q y) (hy : y.length = m) (hy1 : ∀ v ∈ y, v.oneCell' = true) (hb : xs.length + 1 ≤ 4194304)
    (hK : ∀ w' v' bl', RowM m w' v' (xs ++ [y]) bl' → Fr (fun k => bl = some k) w w' → (∀ k, bl' = some k → bl = some k ∨ w.heap.size ≤ k) → bl' ≠ none → K v' w') : vAppend P t t s (sv q 1 1) w K := by
  obtain ⟨i, hi, his, hib⟩ := E.hi
  have hsrc := (src_slice (len := m) (off := 0) (c := m) hq (by omega)).2
  have ey : (y.drop 0).take m = y := by rw [List.drop_zero, List.take_of_length_le (by omega)]
  rw [ey] at hsrc
  have hld : ∀ (K : List Value → Prop), K y → ldN w ⟨q, 0, none⟩ (1 * m) K := fun K k => by
    rw [Nat.one_mul]
    obtain ⟨T, hT⟩ := hq
    refine ⟨y, hy, fun j v hj => ?_, k⟩
    rw [addr_add]
    simp only [World.cell?, hT]
    simpa using hj
  have grow : ∀ (c : Nat), xs.length + 1 ≤ c → (∀ k, bl = some k → k < w.heap.size) → K (.slice (some ⟨w.heap.size, 0, none⟩) (xs.length + 1) c) (w.drew.alloc (.cells (xs.flatten ++ y ++ repZ z (c - (xs.length + 1))).toArray e)) := by
    intro c hc hlt
    refine hK _ _ (some w.heap.size) ⟨?_, c - (xs.length + 1), repZ z (c - (xs.length + 1)), repZ_len E.hm, ?_, ?_⟩ ((Fr.refl _ w).drew.alloc _) ?_ (by simp)
    · intro x hx
      rcases List.mem_append.1 hx with h | h
      · exact hs.1 x h
      · rw [List.mem_singleton.1 h, hy]
    · have : xs.length + 1 + (c - (xs.length + 1)) = c := by omega
      rw [List.length_append, List.length_singleton, this]
    · have : (xs ++ [y]).flatten = xs.flatten ++ y := by simp
      rw [this]
      exact ⟨e, World.alloc_heap_new w.drew _⟩
    · intro k hk; cases hk; exact .inr (Nat.le_refl _)
  have hbytes : (xs.length + 1) * i.bytes ≤ 140737488355328 := Nat.le_trans (Nat.mul_le_mul hb hib) (by omega)
  unfold vAppend
  cases bl with
  | none =>
    obtain ⟨_, rfl, rfl⟩ := hs
    simp only [E.ht, hi, E.hz, E.hu, his]
    refine ⟨by simp [E.hm], hld _ ⟨fun h => absurd h (by simp [lenV]), fun _ => ⟨by simpa [lenV] using hbytes, by simp [lenV], rfl, fun c hc => ?_⟩⟩⟩
    have := grow c (by simpa [lenV] using hc) (by simp)
    simpa [lenV] using this
  | some l =>
    obtain ⟨hlen, r, rest, h1, rfl, ⟨T, hl⟩⟩ := hs
    have hfl := flat_len hlen
    simp only [E.ht, hi, E.hz, E.hu, his]
    refine ⟨by simp [E.hm], hld _ ⟨fun h => ?_, fun _ => ⟨hbytes, by simp only [lenV]; omega, ?_⟩⟩⟩
    · have h : 1 ≤ r := by simp only [lenV] at h; omega
      have hr : m ≤ rest.length := by rw [h1]; exact Nat.le_mul_of_pos_left _ h
      simp only [stMaybe, addr_add, Nat.zero_add]
      unfold stN
      simp only [hl]
      refine ⟨trivial, ?_, by simp, hy1, ?_⟩
      · simp only [List.size_toArray, List.length_append]; omega
      have esp : spl (xs.flatten ++ rest) (xs.length * m) y = (xs ++ [y]).flatten ++ rest.drop m := by
        rw [← hfl]
        simp [spl, List.drop_append, hy]
      rw [esp]
      refine hK _ _ (some l) ⟨?_, r - 1, rest.drop m, ?_, ?_, ⟨T, World.putObj_heap_same (lt_of_blk hl)⟩⟩ ((Fr.refl _ w).put _ fun _ => rfl) (fun k hk => .inl hk) (by simp)
      · intro x hx
        rcases List.mem_append.1 hx with h | h
        · exact hlen x h
        · rw [List.mem_singleton.1 h, hy]
      · rw [List.length_drop, h1, Nat.sub_mul, Nat.one_mul]
      · show Value.slice _ (xs.length + lenV _) (xs.length + r) = _
        have : (xs ++ [y]).length + (r - 1) = xs.length + r := by simp; omega
        rw [this]; simp [lenV]
    · show ldN w ⟨l, 0, none⟩ (xs.length * m) _
      refine ⟨xs.flatten, hfl, fun j v hj => ?_, fun c hc => ?_⟩
      · rw [addr_add]
        simp only [World.cell?, hl]
        have := (List.getElem?_eq_some_iff.1 hj).1
        simp only [Nat.zero_add, List.getElem?_toArray]
        rw [List.getElem?_append_left this]; exact hj
      · exact grow c hc (fun k hk => by cases hk; exact lt_of_blk hl)
end

end Go.V

/-
  The engine, part 9: what a function holds while it runs, as a row of assertions that do not touch one another. Own work.
-/
set_option linter.unusedVariables false
set_option linter.unusedSimpArgs false
namespace Go.V
open Go Go.RowKit

/-- an assertion of some blocks -/
structure As where
  foot : Nat → Prop
  holds : World → Prop
  lt : ∀ w, holds w → ∀ k, foot k → k < w.heap.size
  fr : ∀ w w' F, holds w → Fr F w w' → (∀ k, foot k → ¬ F k) → holds w'

def As.blk (b : Nat) (cs : List Value) : As := ⟨fun k => k = b, fun w => Cs w b cs, fun w h k e => by subst e; exact h.lt, fun w w' F h f hn => h.fr f (hn b rfl)⟩
def As.row (v : Value) (xs : List Value) (bl : Option Nat) : As := ⟨fun k => bl = some k, fun w => Row w v xs bl, fun w h k e => h.lt k e, fun w w' F h f hn => h.fr f hn⟩
def As.rowM (m : Nat) (v : Value) (xs : List (List Value)) (bl : Option Nat) : As := ⟨fun k => bl = some k, fun w => RowM m w v xs bl, fun w h k e => h.lt k e, fun w w' F h f hn => h.fr f hn⟩

structure Lx (F : Nat → Prop) (w0 w : World) (L : List As) : Prop where
  fr : Fr F w0 w
  ok : ∀ a ∈ L, a.holds w
  mine : ∀ a ∈ L, ∀ k, a.foot k → F k ∨ w0.heap.size ≤ k
  dj : L.Pairwise fun a b => ∀ k, a.foot k → ¬ b.foot k

section
variable {P : Program} {F : Nat → Prop} {w0 w w' : World} {L : List As}

theorem Lx.start (F : Nat → Prop) (w : World) : Lx F w w [] := ⟨Fr.refl _ _, by simp, by simp, List.Pairwise.nil⟩

theorem Lx.of (f : Fr F w0 w) : Lx F w0 w [] := ⟨f, by simp, by simp, List.Pairwise.nil⟩

theorem Lx.more (h : Lx F w0 w L) (f : Fr (fun _ => False) w w') : Lx F w0 w' L :=
  ⟨h.fr.more f, fun a ha => a.fr _ _ _ (h.ok a ha) f (fun _ _ => id), h.mine, h.dj⟩

theorem Lx.drew (h : Lx F w0 w L) : Lx F w0 w.drew L := h.more (Fr.refl _ w).drew

theorem Lx.get (h : Lx F w0 w L) {i : Nat} {a : As} (hi : L[i]? = some a) : a.holds w := h.ok a (List.mem_of_getElem? hi)

theorem Lx.add (h : Lx F w0 w L) {a : As} (f : Fr (fun _ => False) w w') (ha : a.holds w') (hf : ∀ k, a.foot k → w.heap.size ≤ k) : Lx F w0 w' (a :: L) := by
  have h' := h.more f
  refine ⟨h'.fr, ?_, ?_, ?_⟩
  · intro b hb
    rcases List.mem_cons.1 hb with rfl | hb
    · exact ha
    · exact h'.ok b hb
  · intro b hb k hk
    rcases List.mem_cons.1 hb with rfl | hb
    · exact .inr (Nat.le_trans h.fr.size (hf k hk))
    · exact h.mine b hb k hk
  · refine List.pairwise_cons.2 ⟨fun b hb k hk hkb => ?_, h.dj⟩
    have := b.lt w (h.ok b hb) k hkb
    have := hf k hk
    omega

theorem Lx.sub (h : Lx F w0 w L) {L' : List As} (hs : L'.Sublist L) : Lx F w0 w L' :=
  ⟨h.fr, fun a ha => h.ok a (hs.subset ha), fun a ha => h.mine a (hs.subset ha), h.dj.sublist hs⟩

theorem pair_other {L : List As} (hd : L.Pairwise fun a b => ∀ k, a.foot k → ¬ b.foot k) {i j : Nat} {a b : As} (hi : L[i]? = some a) (hj : L[j]? = some b) (hn : i ≠ j) : ∀ k, a.foot k → ¬ b.foot k := by
  rw [List.pairwise_iff_getElem] at hd
  obtain ⟨hi1, rfl⟩ := List.getElem?_eq_some_iff.1 hi
  obtain ⟨hj1, rfl⟩ := List.getElem?_eq_some_iff.1 hj
  intro k ha hb
  rcases Nat.lt_or_gt_of_ne hn with h | h
  · exact hd i j hi1 hj1 h k ha hb
  · exact hd j i hj1 hi1 h k hb ha

/-- one assertion becomes another one -/
theorem Lx.step (h : Lx F w0 w L) {i : Nat} {a a' : As} (hi : L[i]? = some a) (f : Fr a.foot w w') (ha : a'.holds w') (hf : ∀ k, a'.foot k → a.foot k ∨ w.heap.size ≤ k) : Lx F w0 w' (L.set i a') := by
  have ham := List.mem_of_getElem? hi
  have hlt := (List.getElem?_eq_some_iff.1 hi).1
  have get : ∀ (j : Nat) b, (L.set i a')[j]? = some b → (j = i ∧ b = a') ∨ (j ≠ i ∧ L[j]? = some b) := by
    intro j b hj
    rw [List.getElem?_set] at hj
    split at hj
    · rename_i e; subst e
      first | (rw [if_pos hlt] at hj) | skip
      cases hj
      exact .inl ⟨rfl, rfl⟩
    · rename_i e
      exact .inr ⟨fun e' => e e'.symm, hj⟩
  have mem : ∀ b ∈ L.set i a', b = a' ∨ ∃ j, j ≠ i ∧ L[j]? = some b := by
    intro b hb
    obtain ⟨j, hj⟩ := List.mem_iff_getElem?.1 hb
    rcases get j b hj with ⟨_, e⟩ | ⟨e, hj⟩
    · exact .inl e
    · exact .inr ⟨j, e, hj⟩
  refine ⟨?_, ?_, ?_, ?_⟩
  · refine h.fr.trans f fun k hk hak => ?_
    rcases h.mine a ham k hak with h1 | h1
    · exact h1
    · exact absurd h1 (by omega)
  · intro b hb
    rcases mem b hb with rfl | ⟨j, hn, hj⟩
    · exact ha
    · exact b.fr _ _ _ (h.get hj) f (pair_other h.dj hj hi hn)
  · intro b hb k hk
    rcases mem b hb with rfl | ⟨j, hn, hj⟩
    · rcases hf k hk with h1 | h1
      · exact h.mine a ham k h1
      · exact .inr (Nat.le_trans h.fr.size h1)
    · exact h.mine b (List.mem_of_getElem? hj) k hk
  · rw [List.pairwise_iff_getElem]
    intro x y hx hy hxy k hk1 hk2
    have g1 := get x _ (List.getElem?_eq_getElem hx)
    have g2 := get y _ (List.getElem?_eq_getElem hy)
    rcases g1 with ⟨e1, e2⟩ | ⟨e1, e2⟩
    · rcases g2 with ⟨e3, e4⟩ | ⟨e3, e4⟩
      · omega
      · rw [e2] at hk1
        rcases hf k hk1 with h1 | h1
        · exact pair_other h.dj e4 hi e3 k hk2 h1
        · have := (L.set i a')[y].lt w (h.get e4) k hk2; omega
    · rcases g2 with ⟨e3, e4⟩ | ⟨e3, e4⟩
      · rw [e4] at hk2
        rcases hf k hk2 with h1 | h1
        · exact pair_other h.dj e2 hi e1 k hk1 h1
        · have := (L.set i a')[x].lt w (h.get e2) k hk1; omega
      · exact pair_other h.dj e2 e4 (by omega) k hk1 hk2

/-! ### Rules -/

theorem sBox {e : TypeId} {cs : Array Value} {K : Value → World → Prop} (h : Lx F w0 w L) (k : ∀ w' b, Lx F w0 w' (.blk b cs.toList :: L) → K (pt b 0) w') : vBox e (.agg cs) w K :=
  k _ _ (h.add (a := .blk w.heap.size cs.toList) ((Fr.refl _ w).alloc _) (Cs.new' w cs e) (fun k e => by rw [show k = w.heap.size from e]; exact Nat.le_refl _))
theorem sBox1 {e : TypeId} {v : Value} {K : Value → World → Prop} (hv : v.cells = #[v]) (h : Lx F w0 w L) (k : ∀ w' b, Lx F w0 w' (.blk b [v] :: L) → K (pt b 0) w') : vBox e v w K := by
  unfold vBox
  rw [hv]
  exact k _ _ (h.add (a := .blk w.heap.size [v]) ((Fr.refl _ w).alloc _) (Cs.new' w #[v] e) (fun k e => by rw [show k = w.heap.size from e]; exact Nat.le_refl _))
theorem sAlloc {e : TypeId} {z : Array Value} {K : Value → World → Prop} (hz : zc P e = some z) (h : Lx F w0 w L) (k : ∀ w' b, Lx F w0 w' (.blk b z.toList :: L) → K (pt b 0) w') : vAlloc P e w K := by
  unfold vAlloc; rw [hz]
  exact k _ _ (h.add (a := .blk w.heap.size z.toList) ((Fr.refl _ w).alloc _) (Cs.new' w z e) (fun k e => by rw [show k = w.heap.size from e]; exact Nat.le_refl _))
theorem sLd {b o i : Nat} {cs : List Value} {v : Value} {K : Value → Prop} (h : Lx F w0 w L) (hi : L[i]? = some (.blk b cs)) (hv : cs[o]? = some v) (k : K v) : vLd .one (pt b o) w K := rLd (h.get hi) hv k
theorem sLdN {b n i : Nat} {cs : List Value} {K : Value → Prop} (h : Lx F w0 w L) (hi : L[i]? = some (.blk b cs)) (hn : cs.length = n) (k : K (.agg cs.toArray)) : vLd (.agg n) (pt b 0) w K := by
  refine rLdN (h.get hi) (by omega) ?_
  rw [List.drop_zero, List.take_of_length_le (by omega)]; exact k
theorem sLdP {b o n i : Nat} {cs : List Value} {K : Value → Prop} (h : Lx F w0 w L) (hi : L[i]? = some (.blk b cs)) (hn : o + n ≤ cs.length) (k : K (.agg ((cs.drop o).take n).toArray)) : vLd (.agg n) (pt b o) w K :=
  rLdN (h.get hi) hn k
theorem sSt {b o i : Nat} {cs : List Value} {v : Value} {K : World → Prop} (h : Lx F w0 w L) (hi : L[i]? = some (.blk b cs)) (ho : o < cs.length) (hv : v.oneCell' = true) (hna : ∀ c, v ≠ .agg c)
    (k : ∀ w', Lx F w0 w' (L.set i (.blk b (cs.set o v))) → K w') : vSt (some 1) (pt b o) v w K :=
  rSt (h.get hi) ho hv hna fun w' u => k w' (h.step hi u.fr u.cs (fun _ e => .inl e))
theorem sStN {b o n i : Nat} {cs : List Value} {vs : Array Value} {K : World → Prop} (h : Lx F w0 w L) (hi : L[i]? = some (.blk b cs)) (hn : vs.size = n) (ho : o + n ≤ cs.length) (hv : ∀ x ∈ vs.toList, x.oneCell' = true)
    (k : ∀ w', Lx F w0 w' (L.set i (.blk b (spl cs o vs.toList))) → K w') : vSt (some n) (pt b o) (.agg vs) w K :=
  rStN (h.get hi) hn ho hv fun w' u => k w' (h.step hi u.fr u.cs (fun _ e => .inl e))

theorem sDraw {body : (World → Prop) → Prop} (h : Lx F w0 w L) (k : body fun W => Lx F w0 W L) : drawF w body := ⟨_, h.drew, k⟩
theorem sLdS {b o i : Nat} {cs : List Value} {v : Value} {K : Value → Prop} (hi : L[i]? = some (.blk b cs)) (hv : cs[o]? = some v) (k : K v) : vLdS (fun W => Lx F w0 W L) .one (pt b o) K :=
  rLdS v (fun W hW => ⟨cs, hW.get hi, hv⟩) k
theorem sLdSN {b n i : Nat} {cs : List Value} {K : Value → Prop} (hi : L[i]? = some (.blk b cs)) (hn : cs.length = n) (k : K (.agg cs.toArray)) : vLdS (fun W => Lx F w0 W L) (.agg n) (pt b 0) K := by
  refine ⟨cs, hn, fun w hw j v hj => ?_, k⟩
  rw [addr_add]
  have := Cs.cell (o := 0 + j) (hw.get hi) (by rw [Nat.zero_add]; exact hj)
  exact this

theorem sIf {c : Bool} {A B : Prop} (ha : c = true → A) (hb : c = false → B) : vBool (.bool c) fun c => if c = true then A else B := rIf ha hb
/-- a question of a whole number -/
theorem sIfD {p : Prop} [Decidable p] {A B : Prop} (ha : p → A) (hb : ¬ p → B) : vBool (.bool (decide p)) fun c => if c = true then A else B := rIf (fun h => ha (of_decide_eq_true h)) (fun h => hb (of_decide_eq_false h))
theorem sIfE {a b : Int} {A B : Prop} (ha : a = b → A) (hb : a ≠ b → B) : vBool (.bool (a == b)) fun c => if c = true then A else B := rIf (fun h => ha (by simpa using h)) (fun h => hb (by simpa using h))
theorem sIfNE {a b : Int} {A B : Prop} (ha : a ≠ b → A) (hb : a = b → B) : vBool (.bool (a != b)) fun c => if c = true then A else B := rIf (fun h => ha (by simpa using h)) (fun h => hb (by simpa using h))
theorem sIfS {a b : List UInt8} {A B : Prop} (ha : a = b → A) (hb : a ≠ b → B) : vBool (.bool (a == b)) fun c => if c = true then A else B := rIf (fun h => ha (by simpa using h)) (fun h => hb (by simpa using h))
theorem sIfNS {a b : List UInt8} {A B : Prop} (ha : a ≠ b → A) (hb : a = b → B) : vBool (.bool (!(a == b))) fun c => if c = true then A else B := rIf (fun h => ha (by simpa using h)) (fun h => hb (by simpa using h))
theorem sIfN {c : Bool} {A B : Prop} (ha : c = false → A) (hb : c = true → B) : vBool (.bool (!c)) fun c => if c = true then A else B := rIf (fun h => ha (by simpa using h)) (fun h => hb (by simpa using h))

/-- where ways meet: what is behind is proved for each way anew -/
theorem sJoin {sel : List Nat} {a : (List Value → List Nat → World → Prop) → Prop} {b : Env → List Nat → World → Prop} (h : a fun vs ds W => ∀ ρ, sel.map ρ = vs → b ρ ds W) : joinF sel a b :=
  ⟨_, h, fun ρ ds W hj => hj ρ rfl⟩

theorem sCv {k k' : IntKind} {n : Int} {K : Value → Prop} (h : K (.int k (k.wrap n))) : vConv (.int k) (.int k' n) K := h
theorem sAddS {a b : List UInt8} {K : Value → Prop} (hs : a.length + b.length < 9223372036854775808) (k : K (str (a ++ b))) : vBin .string .add (str a) (str b) K := by
  show _ < _ ∧ K _
  have e : (⟨a.toArray⟩ : ByteArray) ++ ⟨b.toArray⟩ = ⟨(a ++ b).toArray⟩ := by
    apply ByteArray.ext
    simp
  rw [e]
  exact ⟨by simpa [ByteArray.size] using hs, k⟩
theorem sRem {a b : Int} (hb : b ≠ 0) {K : Value → Prop} (k : K (it (a.tmod b))) : vBin (.int .i64) .rem (it a) (it b) K := ⟨rfl, hb, k⟩
theorem sQuo {a b : Int} (ha : 0 ≤ a) (ha2 : a < 9223372036854775808) (hb : 0 < b) {K : Value → Prop} (k : K (it (a.tdiv b))) : vBin (.int .i64) .quo (it a) (it b) K := by
  refine ⟨rfl, by omega, ?_⟩
  rw [Int.tdiv_eq_ediv_of_nonneg ha] at *
  have h1 : 0 ≤ a / b := Int.ediv_nonneg ha (by omega)
  have h2 : a / b ≤ a := Int.ediv_le_self b ha
  rw [wrap_id (by omega) (by omega)]
  exact k

theorem sExt2 {a b c : Value} {K : Value → Prop} (k : K c) : vExt (.tuple #[a, b, c]) 2 K := k
theorem sExt30 {a b c : Value} {K : Value → Prop} (k : K a) : vExt (.tuple #[a, b, c]) 0 K := k
theorem sExt31 {a b c : Value} {K : Value → Prop} (k : K b) : vExt (.tuple #[a, b, c]) 1 K := k

theorem sNilEq {K : Value → Prop} (k : K (.bool true)) : vBin .inil .eql .nilIface .nilIface K := k
theorem sNilNe {K : Value → Prop} (k : K (.bool false)) : vBin .inil .neq .nilIface .nilIface K := k
theorem sIfcEq {T : TypeId} {p : Value} {K : Value → Prop} (k : K (.bool false)) : vBin .inil .eql (.iface T p) .nilIface K := k
theorem sIfcNe {T : TypeId} {p : Value} {K : Value → Prop} (k : K (.bool true)) : vBin .inil .neq (.iface T p) .nilIface K := k

/-- rows -/
theorem Lx.row (h : Lx F w0 w L) {i : Nat} {v : Value} {xs : List Value} {bl : Option Nat} (hi : L[i]? = some (.row v xs bl)) : Row w v xs bl := h.get hi
theorem Lx.rowM (h : Lx F w0 w L) {i m : Nat} {v : Value} {xs : List (List Value)} {bl : Option Nat} (hi : L[i]? = some (.rowM m v xs bl)) : RowM m w v xs bl := h.get hi

theorem Lx.newRow (h : Lx F w0 w L) {v : Value} {xs : List Value} {b : Nat} (hr : Row w' v xs (some b)) (hb : w.heap.size ≤ b) (f : Fr (fun _ => False) w w') : Lx F w0 w' (.row v xs (some b) :: L) :=
  h.add (a := .row v xs (some b)) f hr (fun k e => by cases (show some b = some k from e); exact hb)
theorem Lx.nilRow (h : Lx F w0 w L) : Lx F w0 w (.row (.slice none 0 0) [] none :: L) :=
  h.add (a := .row (.slice none 0 0) [] none) (Fr.refl _ _) ⟨rfl, rfl⟩ (fun k e => by cases (show none = some k from e))
theorem Lx.nilRowM (h : Lx F w0 w L) (m : Nat) : Lx F w0 w (.rowM m (.slice none 0 0) [] none :: L) :=
  h.add (a := .rowM m (.slice none 0 0) [] none) (Fr.refl _ _) ⟨by simp, rfl, rfl⟩ (fun k e => by cases (show none = some k from e))

variable {t e : TypeId} {z : Value}

theorem sApp (E : E1 P t e z) {u : TypeId} (hu : srcK P u = true) {i : Nat} {s x : Value} {xs ys : List Value} {bl : Option Nat} {K : Value → World → Prop} (h : Lx F w0 w L) (hi : L[i]? = some (.row s xs bl)) (hx : Src w x ys) (hys : ∀ y ∈ ys, y.oneCell' = true) (hb : xs.length + ys.length ≤ 4194304)
    (k : ∀ w' v' bl', Lx F w0 w' (L.set i (.row v' (xs ++ ys) bl')) → (bl ≠ none → bl' ≠ none) → K v' w') : vAppend P t u s x w K :=
  E.app hu (h.row hi) hx hys hb fun w' v' bl' hr f hbl hne => k w' v' bl' (h.step (a' := .row v' (xs ++ ys) bl') hi f hr hbl) hne

/-- a slice of one element, laid for an append, and the append -/
theorem sApp1 (E : E1 P t e z) {i : Nat} {s x : Value} {xs : List Value} {bl : Option Nat} {K : Value → World → Prop} (h : Lx F w0 w L) (hi : L[i]? = some (.row s xs bl)) (hone : x.oneCell' = true) (hb : xs.length + 1 ≤ 4194304)
    (k : ∀ w' v' bl', Lx F w0 w' (L.set i (.row v' (xs ++ [x]) bl')) → (bl ≠ none → bl' ≠ none) → K v' w') : vBuildSlice P t 1 [(0, x)] w fun v w => vAppend P t t s v w K := by
  refine E.build1 (cells_one hone) fun w1 hr f hs => ?_
  have h1 := h.more f
  exact sApp E E.hu h1 hi hr.src (by intro y hy; rw [List.mem_singleton.1 hy]; exact hone) (by simpa using hb) k

theorem sAppM {m : Nat} {zs : List Value} (E : EN P t e m zs) (hm : m ≤ 1000) {i : Nat} {s x : Value} {y : List Value} {xs : List (List Value)} {bl : Option Nat} {K : Value → World → Prop} (h : Lx F w0 w L) (hi : L[i]? = some (.rowM m s xs bl)) (hx : x.cells.toList = y) (hy : y.length = m) (hy1 : ∀ v ∈ y, v.oneCell' = true) (hb : xs.length + 1 ≤ 4194304)
    (k : ∀ w' v' bl', Lx F w0 w' (L.set i (.rowM m v' (xs ++ [y]) bl')) → bl' ≠ none → K v' w') : vBuildSlice P t 1 [(0, x)] w fun v w => vAppend P t t s v w K := by
  refine E.build1 hx hy hm fun w1 hc f hs => ?_
  have h1 := h.more f
  exact E.app (h1.rowM hi) hc hy hy1 hb fun w' v' bl' hr f' hbl hne => k w' v' bl' (h1.step (a' := .rowM m v' (xs ++ [y]) bl') hi f' hr hbl) hne

/-! ### Slices of one cell an element: laid, cut, read -/

theorem fill_lit {n : Nat} {z : Value} : ∀ (ys done : List Value) (K : List Value → Prop), done.length + ys.length = n → (∀ y ∈ ys, y.oneCell' = true) → K (done ++ ys) →
    fillV (slPlace n 1) (done ++ List.replicate ys.length z) ((List.range' done.length ys.length).zip ys) K
  | [], done, K, _, _, k => by simpa [fillV] using k
  | y :: ys, done, K, hn, h1, k => by
    simp only [List.length_cons] at hn ⊢
    rw [List.range'_succ, List.zip_cons_cons]
    unfold fillV
    have hlt : Nat.blt done.length n = true := by simp; omega
    have hsp : slPlace n 1 done.length = some (done.length, 1) := by simp [slPlace, hlt]
    rw [hsp]
    refine ⟨by rw [cells_one (h1 y (by simp))]; rfl, ?_⟩
    have e1 : spl (done ++ List.replicate (ys.length + 1) z) done.length y.cells.toList = (done ++ [y]) ++ List.replicate ys.length z := by
      rw [cells_one (h1 y (by simp))]
      simp [spl, List.replicate_succ, List.append_assoc]
    rw [e1]
    have := fill_lit (n := n) (z := z) ys (done ++ [y]) K (by simp; omega) (fun v hv => h1 v (by simp [hv])) (by simpa using k)
    simpa using this

theorem sBuild (E : E1 P t e z) {K : Value → World → Prop} (h : Lx F w0 w L) (ys : List Value) (hone : ∀ y ∈ ys, y.oneCell' = true) (hn : ys.length ≤ 1000)
    (k : ∀ w' b, Lx F w0 w' (.row (sv b ys.length ys.length) ys (some b) :: L) → K (sv b ys.length ys.length) w') : vBuildSlice P t ys.length ((List.range' 0 ys.length).zip ys) w K := by
  obtain ⟨i, hi1, hi2, hi3⟩ := E.hi
  unfold vBuildSlice
  simp only [E.ht, E.hz, hi1, hi2]
  refine ⟨by omega, rfl, ?_⟩
  have e1 : repZ [z] ys.length = [] ++ List.replicate ys.length z := by rw [repZ_one]; rfl
  rw [e1]
  refine fill_lit ys [] _ (by simp) hone ?_
  refine k _ w.heap.size (h.newRow (w' := w.alloc (.cells ys.toArray e)) ⟨[], by simp, ?_⟩ (Nat.le_refl _) ((Fr.refl _ w).alloc _))
  rw [List.append_nil]
  exact Cs.new _ _ _

theorem sBuild1 (E : E1 P t e z) {K : Value → World → Prop} {x : Value} (h : Lx F w0 w L) (hone : x.oneCell' = true)
    (k : ∀ w' b, Lx F w0 w' (.row (sv b 1 1) [x] (some b) :: L) → K (sv b 1 1) w') : vBuildSlice P t 1 [(0, x)] w K :=
  sBuild E h [x] (by intro y hy; rw [List.mem_singleton.1 hy]; exact hone) (by simp) k
theorem sBuild3 (E : E1 P t e z) {K : Value → World → Prop} {x y u : Value} (h : Lx F w0 w L) (hx : x.oneCell' = true) (hy : y.oneCell' = true) (hu : u.oneCell' = true)
    (k : ∀ w' b, Lx F w0 w' (.row (sv b 3 3) [x, y, u] (some b) :: L) → K (sv b 3 3) w') : vBuildSlice P t 3 [(0, x), (1, y), (2, u)] w K :=
  sBuild E h [x, y, u] (by intro v hv; simp at hv; rcases hv with rfl | rfl | rfl <;> assumption) (by simp) k

theorem sCut {i m : Nat} {v : Value} {xs : List Value} {bl : Option Nat} {kd : IntKind} {K : Value → Prop} (h : Lx F w0 w L) (hi : L[i]? = some (.row v xs bl)) (hm : m ≤ xs.length)
    (k : ∀ v', Lx F w0 w (L.set i (.row v' (xs.take m) bl)) → K v') : vSlice (.slice 1) v none (some (.int kd m)) K := by
  have key : ∀ v', Row w v' (xs.take m) bl → K v' := fun v' hr => k v' (h.step (a' := .row v' (xs.take m) bl) hi (Fr.refl _ _) hr (fun k e => .inl e))
  exact row_cut (h.row hi) hm key

theorem Row.rd {v x : Value} {xs : List Value} {bl : Option Nat} {j : Nat} {kd : IntKind} {K : Value → Prop} (h : Row w v xs bl) (hx : xs[j]? = some x) (k : K x) : vIA (.slice 1) v (.int kd j) fun p => vLd .one p w K := by
  have hlt := (List.getElem?_eq_some_iff.1 hx).1
  cases bl with
  | none => obtain ⟨rfl, rfl⟩ := h; simp at hlt
  | some l =>
    obtain ⟨r, rfl, hc⟩ := h
    refine rIA hlt ?_
    rw [Nat.mul_one]
    exact rLd hc (by rw [List.getElem?_append_left hlt]; exact hx) k
theorem sIdx {i j : Nat} {v x : Value} {xs : List Value} {bl : Option Nat} {kd : IntKind} {K : Value → Prop} (h : Lx F w0 w L) (hi : L[i]? = some (.row v xs bl)) (hx : xs[j]? = some x) (k : K x) : vIA (.slice 1) v (.int kd j) fun p => vLd .one p w K :=
  (h.row hi).rd hx k
theorem Row.rdS {S : World → Prop} {v x : Value} {xs : List Value} {bl : Option Nat} {j : Nat} {kd : IntKind} {K : Value → Prop} (h : Row w v xs bl) (hS : ∀ W, S W → Row W v xs bl) (hx : xs[j]? = some x) (k : K x) : vIA (.slice 1) v (.int kd j) fun p => vLdS S .one p K := by
  have hlt := (List.getElem?_eq_some_iff.1 hx).1
  cases bl with
  | none => obtain ⟨rfl, rfl⟩ := h; simp at hlt
  | some l =>
    obtain ⟨r, rfl, hc⟩ := h
    refine rIA hlt ?_
    rw [Nat.mul_one]
    refine rLdS x (fun W hW => ?_) k
    obtain ⟨r2, e2, hc2⟩ := hS W hW
    exact ⟨_, hc2, by rw [List.getElem?_append_left hlt]; exact hx⟩
theorem sIdxS {i j : Nat} {v x : Value} {xs : List Value} {bl : Option Nat} {kd : IntKind} {K : Value → Prop} (h : Lx F w0 w L) (hi : L[i]? = some (.row v xs bl)) (hx : xs[j]? = some x) (k : K x) : vIA (.slice 1) v (.int kd j) fun p => vLdS (fun W => Lx F w0 W L) .one p K :=
  (h.row hi).rdS (fun W hW => hW.row hi) hx k
theorem sLen {es i : Nat} {v : Value} {xs : List Value} {bl : Option Nat} {K : Value → Prop} (h : Lx F w0 w L) (hi : L[i]? = some (.row v xs bl)) (k : K (it xs.length)) : vLen (.slice es) v K := by
  obtain ⟨_, _, a, c, rfl⟩ := (h.row hi).val
  exact k
theorem sOne {v : Value} {xs : List Value} {bl : Option Nat} (h : Row w v xs bl) : v.oneCell' = true := h.val.1

/-! ### Maps whose keys are strings -/

def MapS (w : World) (b : Nat) (ks : List (ByteArray × Value)) : Prop := ∃ es c, w.heap[b]? = some (.map es c) ∧ mapIs es ks
theorem MapS.fr {w w' : World} {b : Nat} {ks : List (ByteArray × Value)} {F : Nat → Prop} (h : MapS w b ks) (f : Fr F w w') (hn : ¬ F b) : MapS w' b ks := by
  obtain ⟨es, c, h1, h2⟩ := h
  exact ⟨es, c, f.get h1 hn, h2⟩
def As.mp (b : Nat) (ks : List (ByteArray × Value)) : As := ⟨fun k => k = b, fun w => MapS w b ks, fun w ⟨es, c, h, _⟩ k e => by subst e; exact lt_of_blk h, fun w w' F h f hn => h.fr f (hn b rfl)⟩

theorem Lx.mp (h : Lx F w0 w L) {i b : Nat} {ks : List (ByteArray × Value)} (hi : L[i]? = some (.mp b ks)) : MapS w b ks := h.get hi

theorem sMakeMap {K : Value → World → Prop} (h : Lx F w0 w L) (k : ∀ w' b, Lx F w0 w' (.mp b [] :: L) → K (.map (some b)) w') : vMakeMap none w K :=
  k _ _ (h.add (a := .mp w.heap.size []) ((Fr.refl _ w).alloc _) ⟨#[], 0, World.alloc_heap_new _ _, rfl⟩ (fun k e => by rw [show k = w.heap.size from e]; exact Nat.le_refl _))

theorem MapS.look {t kt et : TypeId} {z : Value} (hu : P.underlying t = some (.map kt et)) (hk : P.underlying kt = some .string) (hz : (P.info? et).bind (·.zero) = some z) {b : Nat} {ks : List (ByteArray × Value)} {s : ByteArray} {ok : Bool} {K : Value → Prop}
    (h : MapS w b ks) (k1 : ∀ v, mapAt s ks = some v → K (if ok then .tuple #[v, .bool true] else v)) (k2 : mapAt s ks = none → K (if ok then .tuple #[z, .bool false] else z)) : vLookup P t (.map (some b)) (.string s) ok w K := by
  obtain ⟨es, c, h1, h2⟩ := h
  unfold vLookup
  simp only [hu, h1, hz]
  refine ⟨hk, ks, h2, ?_⟩
  cases hm : mapAt s ks with
  | none => exact k2 hm
  | some v => exact k1 v hm

theorem sMapUpd {t kt et : TypeId} (hu : P.underlying t = some (.map kt et)) (hk : P.underlying kt = some .string) {i b : Nat} {ks : List (ByteArray × Value)} {s : ByteArray} {v : Value} {K : World → Prop}
    (h : Lx F w0 w L) (hi : L[i]? = some (.mp b ks)) (hn : mapAt s ks = none) (k : ∀ w', Lx F w0 w' (L.set i (.mp b (ks ++ [(s, v)]))) → K w') : vMapUpd P t (.map (some b)) (.string s) v w K := by
  obtain ⟨es, c, h1, h2⟩ := h.mp hi
  unfold vMapUpd
  simp only [hu, h1]
  refine ⟨hk, ⟨ks, h2, hn⟩, k _ (h.step (a' := .mp b (ks ++ [(s, v)])) hi ((Fr.refl _ w).put _ fun _ => rfl) ⟨_, _, World.putObj_heap_same (lt_of_blk h1), ?_⟩ (fun k e => .inl e))⟩
  unfold mapIs at h2 ⊢
  simp [h2]

end

end Go.V
