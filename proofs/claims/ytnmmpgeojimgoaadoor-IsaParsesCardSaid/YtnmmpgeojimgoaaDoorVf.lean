/-
  The engine, part 6: memory. Frames, and the rules of loads and stores. Own work.
-/
import Derived.Test.YtnmmpgeojimgoaaDoorVe
set_option linter.unusedVariables false
set_option linter.unusedSimpArgs false
namespace Go.V
open Go Go.RowKit

abbrev pt (b o : Nat) : Value := .pointer (some ⟨b, o, none⟩)
abbrev it (n : Int) : Value := .int .i64 n
abbrev sv (l n c : Nat) : Value := .slice (some ⟨l, 0, none⟩) n c

/-- Only blocks of F, and new ones, are other ones. -/
structure Fr (F : Nat → Prop) (w w' : World) : Prop where
  os : w'.os = w.os
  tape : w'.tape = w.tape
  output : w'.output = w.output
  size : w.heap.size ≤ w'.heap.size
  same : ∀ k, k < w.heap.size → ¬ F k → w'.heap[k]? = w.heap[k]?

theorem Fr.refl (F : Nat → Prop) (w : World) : Fr F w w := ⟨rfl, rfl, rfl, Nat.le_refl _, fun _ _ _ => rfl⟩

theorem Fr.trans {F G : Nat → Prop} {a b c : World} (h : Fr F a b) (k : Fr G b c) (hG : ∀ x, x < a.heap.size → G x → F x) : Fr F a c :=
  ⟨k.os.trans h.os, k.tape.trans h.tape, k.output.trans h.output, Nat.le_trans h.size k.size, fun x hx hF =>
    (k.same x (Nat.lt_of_lt_of_le hx h.size) (fun hg => hF (hG x hx hg))).trans (h.same x hx hF)⟩

theorem Fr.mono {F G : Nat → Prop} {a b : World} (h : Fr F a b) (hG : ∀ x, x < a.heap.size → F x → G x) : Fr G a b :=
  ⟨h.os, h.tape, h.output, h.size, fun k hk hn => h.same k hk fun hf => hn (hG k hk hf)⟩

theorem Fr.drew {F : Nat → Prop} {a b : World} (h : Fr F a b) : Fr F a b.drew := ⟨h.os, h.tape, h.output, h.size, h.same⟩

theorem blk_lt (w : World) (o : Obj) (k : Nat) (h : k < w.heap.size) : (w.alloc o).heap[k]? = w.heap[k]? := by
  show (w.heap.push o)[k]? = _
  rw [Array.getElem?_push, if_neg (Nat.ne_of_lt h)]

theorem Fr.alloc {F : Nat → Prop} {a b : World} (h : Fr F a b) (o : Obj) : Fr F a (b.alloc o) :=
  h.trans (G := fun _ => False) ⟨rfl, rfl, rfl, by simp, fun k hk _ => blk_lt b o k hk⟩ (by simp)

theorem Fr.put {F : Nat → Prop} {a b : World} (h : Fr F a b) {k : Nat} (o : Obj) (hk : k < a.heap.size → F k) : Fr F a (b.putObj k o) :=
  h.trans (G := fun x => x = k) ⟨rfl, rfl, rfl, by simp, fun x hx hn => World.putObj_heap_other hn⟩ (by rintro x hx rfl; exact hk hx)

theorem Fr.get {F : Nat → Prop} {a b : World} (h : Fr F a b) {k : Nat} {o : Obj} (ho : a.heap[k]? = some o) (hF : ¬ F k) : b.heap[k]? = some o := by
  rw [h.same k (Array.getElem?_eq_some_iff.1 ho).1 hF, ho]

theorem Fr.more {F : Nat → Prop} {a b c : World} (h : Fr F a b) (k : Fr (fun _ => False) b c) : Fr F a c := h.trans k fun _ _ => False.elim

theorem Fr.putBoth {a b : World} (h : Fr (fun _ => False) a b) {l : Nat} (hl : l < a.heap.size) (o : Obj) : Fr (fun _ => False) (a.putObj l o) (b.putObj l o) := by
  refine ⟨h.os, h.tape, h.output, by simpa using h.size, fun k hk _ => ?_⟩
  have hk' : k < a.heap.size := by simpa using hk
  by_cases e : k = l
  · subst e
    rw [World.putObj_heap_same hk', World.putObj_heap_same (Nat.lt_of_lt_of_le hk' h.size)]
  · rw [World.putObj_heap_other e, World.putObj_heap_other e, h.same k hk' id]

theorem lt_of_blk {w : World} {k : Nat} {o : Obj} (h : w.heap[k]? = some o) : k < w.heap.size := (Array.getElem?_eq_some_iff.1 h).1

/-- a block of plain cells -/
def Cs (w : World) (b : Nat) (cs : List Value) : Prop := ∃ T, w.heap[b]? = some (.cells cs.toArray T (0, 0))

theorem Cs.lt {w : World} {b : Nat} {cs : List Value} (h : Cs w b cs) : b < w.heap.size := let ⟨_, h⟩ := h; lt_of_blk h
theorem Cs.fr {w w' : World} {b : Nat} {cs : List Value} {F : Nat → Prop} (h : Cs w b cs) (hf : Fr F w w') (hF : ¬ F b) : Cs w' b cs := let ⟨T, h⟩ := h; ⟨T, hf.get h hF⟩
theorem Cs.same {w w' : World} {b : Nat} {cs : List Value} (h : Cs w b cs) (e : w'.heap[b]? = w.heap[b]?) : Cs w' b cs := let ⟨T, h⟩ := h; ⟨T, e.trans h⟩
theorem Cs.drew {w : World} {b : Nat} {cs : List Value} (h : Cs w b cs) : Cs w.drew b cs := h
theorem Cs.alloc {w : World} {b : Nat} {cs : List Value} (h : Cs w b cs) (o : Obj) : Cs (w.alloc o) b cs := h.same (blk_lt _ _ _ h.lt)
theorem Cs.new (w : World) (c : List Value) (T : TypeId) : Cs (w.alloc (.cells c.toArray T (0, 0))) w.heap.size c := ⟨T, World.alloc_heap_new _ _⟩
theorem Cs.new' (w : World) (c : Array Value) (T : TypeId) : Cs (w.alloc (.cells c T (0, 0))) w.heap.size c.toList := ⟨T, World.alloc_heap_new _ _⟩

/-- one block is other cells now, and nothing else -/
structure Up (w : World) (b : Nat) (cs : List Value) (w' : World) : Prop where
  fr : Fr (fun k => k = b) w w'
  size : w'.heap.size = w.heap.size
  cs : Cs w' b cs

theorem Cs.up {w w' : World} {b c : Nat} {cs ds : List Value} (h : Cs w b cs) (hu : Up w c ds w') (hn : b ≠ c) : Cs w' b cs := h.fr hu.fr hn

theorem Up.of_put {w : World} {b : Nat} {T T' : TypeId} {cs ds : List Value} (h : w.heap[b]? = some (.cells cs.toArray T (0, 0))) :
    Up w b ds (w.putObj b (.cells ds.toArray T' (0, 0))) :=
  ⟨(Fr.refl _ w).put _ (fun _ => rfl), by simp, T', World.putObj_heap_same (lt_of_blk h)⟩

theorem addr_add (b o n : Nat) : Addr.add ⟨b, o, none⟩ n = ⟨b, o + n, none⟩ := by
  unfold Addr.add
  split
  · rename_i h; subst h; rfl
  · rfl

/-! ### Rules -/
section
variable {P : Program} {w : World}

theorem rNil {b o : Nat} {K : Value → Prop} (k : K (pt b o)) : vNilP P (pt b o) K := k
theorem rFA {f b o : Nat} {K : Value → Prop} (k : K (pt b (o + f))) : vFA (some f) (pt b o) K := by
  show K _; rw [addr_add]; exact k
theorem rFA0 {f b : Nat} {K : Value → Prop} (k : K (pt b f)) : vFA (some f) (pt b 0) K := rFA (by rw [Nat.zero_add]; exact k)

theorem rLd {b o : Nat} {cs : List Value} {v : Value} {K : Value → Prop} (h : Cs w b cs) (hv : cs[o]? = some v) (k : K v) : vLd .one (pt b o) w K := by
  obtain ⟨T, h⟩ := h
  simp [vLd, ld1, World.cell?, h, hv, k]

theorem rLdN {b o n : Nat} {cs : List Value} {K : Value → Prop} (h : Cs w b cs) (hl : o + n ≤ cs.length) (k : K (.agg ((cs.drop o).take n).toArray)) : vLd (.agg n) (pt b o) w K := by
  obtain ⟨T, h⟩ := h
  refine ⟨(cs.drop o).take n, by simp; omega, ?_, k⟩
  intro j v hj
  rw [addr_add]
  simp only [World.cell?, h]
  rw [List.getElem?_take] at hj
  split at hj
  · simpa using hj
  · cases hj

theorem rSt {b o : Nat} {cs : List Value} {v : Value} {K : World → Prop} (h : Cs w b cs) (ho : o < cs.length) (hv : v.oneCell' = true) (hna : ∀ c, v ≠ .agg c)
    (k : ∀ w', Up w b (cs.set o v) w' → K w') : vSt (some 1) (pt b o) v w K := by
  obtain ⟨T, h⟩ := h
  have : st1 w ⟨b, o, none⟩ v K := by
    unfold st1
    simp only [h]
    refine ⟨by simp [Option.isSome] , by simpa using ho, by simp, hv, k _ ?_⟩
    rw [List.setIfInBounds_toArray]
    exact Up.of_put h
  unfold vSt
  split
  · rename_i heq _
    cases heq
    rename_i heq
    cases heq
    split
    · exact absurd rfl (hna _)
    · exact ⟨rfl, this⟩
  · rename_i hx; exact absurd rfl (hx _ _ rfl)

theorem rStN {b o n : Nat} {cs : List Value} {vs : Array Value} {K : World → Prop} (h : Cs w b cs) (hn : vs.size = n) (ho : o + n ≤ cs.length) (hv : ∀ x ∈ vs.toList, x.oneCell' = true)
    (k : ∀ w', Up w b (spl cs o vs.toList) w' → K w') : vSt (some n) (pt b o) (.agg vs) w K := by
  obtain ⟨T, h⟩ := h
  refine ⟨hn, ?_⟩
  unfold stN
  simp only [h]
  refine ⟨trivial, by simp; omega, by simp, hv, k _ ?_⟩
  exact Up.of_put h

theorem rIA {es l n c : Nat} {i : Nat} {K : Value → Prop} {kd : IntKind} (hi : i < n) (k : K (pt l (i * es))) : vIA (.slice es) (sv l n c) (.int kd i) K := by
  refine ⟨by omega, by omega, ?_⟩
  rw [addr_add, Nat.zero_add]; simpa using k

theorem rIAa {es len b o : Nat} {i : Nat} {K : Value → Prop} {kd : IntKind} (hi : i < len) (k : K (pt b (o + i * es))) : vIA (.arr len es) (pt b o) (.int kd i) K := by
  refine ⟨by omega, by omega, ?_⟩
  rw [addr_add]; simpa using k

theorem rAlloc {e : TypeId} {z : Array Value} {K : Value → World → Prop} (hz : zc P e = some z) (k : K (pt w.heap.size 0) (w.alloc (.cells z e))) : vAlloc P e w K := by
  unfold vAlloc; rw [hz]; exact k

theorem rLdS {S : World → Prop} {b o : Nat} {K : Value → Prop} (v : Value) (h : ∀ w, S w → ∃ cs, Cs w b cs ∧ cs[o]? = some v) (k : K v) : vLdS S .one (pt b o) K := by
  refine ⟨v, fun w hw => ?_, k⟩
  obtain ⟨cs, ⟨T, hT⟩, hv⟩ := h w hw
  simp [World.cell?, hT, hv]

theorem rLt {a b : Int} {K : Value → Prop} (k : K (.bool (decide (a < b)))) : vBin (.int .i64) .lss (it a) (it b) K := ⟨rfl, k⟩
theorem rGt {a b : Int} {K : Value → Prop} (k : K (.bool (decide (b < a)))) : vBin (.int .i64) .gtr (it a) (it b) K := ⟨rfl, k⟩
theorem rEq {a b : Int} {K : Value → Prop} (k : K (.bool (a == b))) : vBin (.int .i64) .eql (it a) (it b) K := ⟨rfl, k⟩
theorem rNe {a b : Int} {K : Value → Prop} (k : K (.bool (a != b))) : vBin (.int .i64) .neq (it a) (it b) K := ⟨rfl, k⟩

theorem wrap_id {n : Int} (h1 : -9223372036854775808 ≤ n) (h2 : n < 9223372036854775808) : IntKind.i64.wrap n = n := by
  have e : IntKind.i64.wrap n = if n % 18446744073709551616 ≥ 9223372036854775808 then n % 18446744073709551616 - 18446744073709551616 else n % 18446744073709551616 := by
    simp [IntKind.wrap, IntKind.signed, IntKind.bits]
  rw [e]
  split <;> omega

theorem rLe {a b : Int} {K : Value → Prop} (k : K (.bool (decide (a ≤ b)))) : vBin (.int .i64) .leq (it a) (it b) K := ⟨rfl, k⟩
theorem rGe {a b : Int} {K : Value → Prop} (k : K (.bool (decide (b ≤ a)))) : vBin (.int .i64) .geq (it a) (it b) K := ⟨rfl, k⟩
theorem rNot {b : Bool} {K : Value → Prop} (k : K (.bool (!b))) : vUn .not (.bool b) K := k
theorem rBool {b : Bool} {K : Bool → Prop} (k : K b) : vBool (.bool b) K := k
theorem rIf {c : Bool} {A B : Prop} (ha : c = true → A) (hb : c = false → B) : vBool (.bool c) fun c => if c = true then A else B := by
  cases c
  · exact hb rfl
  · exact ha rfl
theorem rIfT {A B : Prop} (h : A) : vBool (.bool true) fun c => if c = true then A else B := h
theorem rIfF {A B : Prop} (h : B) : vBool (.bool false) fun c => if c = true then A else B := h
theorem rMin2 {a b : Int} {K : Value → Prop} (k : K (it (if b < a then b else a))) : vMin (it a) [it b] K := k

theorem rBox {e : TypeId} {v : Value} {K : Value → World → Prop} (hv : v.cells = #[v]) (k : ∀ w', Cs w' w.heap.size [v] → Fr (fun _ => False) w w' → w'.heap.size = w.heap.size + 1 → K (pt w.heap.size 0) w') : vBox e v w K := by
  unfold vBox
  rw [hv]
  exact k _ (Cs.new' w #[v] e) ((Fr.refl _ w).alloc _) (by simp)
theorem rAllocT {e : TypeId} {z : Array Value} {K : Value → World → Prop} (hz : zc P e = some z) (k : ∀ w', w'.heap[w.heap.size]? = some (.cells z e (0, 0)) → Fr (fun _ => False) w w' → w'.heap.size = w.heap.size + 1 → K (pt w.heap.size 0) w') : vAlloc P e w K := by
  unfold vAlloc; rw [hz]; exact k _ (World.alloc_heap_new _ _) ((Fr.refl _ w).alloc _) (by simp)
theorem rSlA {n q lo hi : Nat} {k1 k2 : IntKind} {K : Value → Prop} (h1 : lo ≤ hi) (h2 : hi ≤ n) (h3 : lo < n) (k : K (.slice (some ⟨q, lo, none⟩) (hi - lo) (n - lo))) : vSlice (.arr n 1) (pt q 0) (some (.int k1 lo)) (some (.int k2 hi)) K := by
  refine ⟨by omega, by omega, by omega, by omega, ?_⟩
  simp only [Int.toNat_natCast]
  rw [if_neg (by omega), addr_add]
  simpa using k

theorem bex (l : List UInt8) (i j : Nat) : (⟨l.toArray⟩ : ByteArray).extract i j = ⟨((l.drop i).take (j - i)).toArray⟩ := by
  have h : ((⟨l.toArray⟩ : ByteArray).extract i j).data = ((l.drop i).take (j - i)).toArray := by
    rw [ByteArray.data_extract, List.extract_toArray]
  cases hb : (⟨l.toArray⟩ : ByteArray).extract i j
  rw [hb] at h
  simpa using h
theorem rSlStrLo {l : List UInt8} {i : Nat} {kd : IntKind} {K : Value → Prop} (h : i ≤ l.length) (k : K (.string ⟨(l.drop i).toArray⟩)) : vSlice .string (.string ⟨l.toArray⟩) (some (.int kd i)) none K := by
  refine ⟨by omega, by simp [ByteArray.size]; omega, ?_⟩
  simp only [Int.toNat_natCast]
  rw [bex]
  simpa [ByteArray.size, List.take_of_length_le] using k
theorem rSlStr {l : List UInt8} {i j : Nat} {k1 k2 : IntKind} {K : Value → Prop} (h : i ≤ j) (h2 : j ≤ l.length) (k : K (.string ⟨((l.drop i).take (j - i)).toArray⟩)) : vSlice .string (.string ⟨l.toArray⟩) (some (.int k1 i)) (some (.int k2 j)) K := by
  refine ⟨by omega, by simp [ByteArray.size]; omega, by omega, by omega, ?_⟩
  simp only [Int.toNat_natCast]
  rw [bex]
  exact k
theorem rSlStrHi {l : List UInt8} {j : Nat} {k2 : IntKind} {K : Value → Prop} (h2 : j ≤ l.length) (k : K (.string ⟨(l.take j).toArray⟩)) : vSlice .string (.string ⟨l.toArray⟩) none (some (.int k2 j)) K := by
  refine ⟨by omega, by simp [ByteArray.size]; omega, ?_⟩
  simp only [Int.toNat_natCast, bnd]
  rw [bex]
  simpa using k

theorem rUSDn {n c : Nat} {K : Value → Prop} (k : K (.pointer none)) : vUSD (.slice none n c) K := k
theorem rUSDs {a : Addr} {n c : Nat} {K : Value → Prop} (h : c ≠ 0) (k : K (.pointer (some a))) : vUSD (.slice (some a) n c) K := ⟨h, k⟩
theorem rLenS {es n c : Nat} {a : Option Addr} {K : Value → Prop} (k : K (it n)) : vLen (.slice es) (.slice a n c) K := k
theorem rLenB {l : List UInt8} {K : Value → Prop} (k : K (it l.length)) : vLen .string (.string ⟨l.toArray⟩) K := by
  show K _
  simpa [ByteArray.size] using k

theorem rAdd {a b : Int} {K : Value → Prop} (h1 : -9223372036854775808 ≤ a + b) (h2 : a + b < 9223372036854775808) (k : K (it (a + b))) : vBin (.int .i64) .add (it a) (it b) K :=
  ⟨rfl, by rw [wrap_id h1 h2]; exact k⟩
theorem rSub {a b : Int} {K : Value → Prop} (h1 : -9223372036854775808 ≤ a - b) (h2 : a - b < 9223372036854775808) (k : K (it (a - b))) : vBin (.int .i64) .sub (it a) (it b) K :=
  ⟨rfl, by rw [wrap_id h1 h2]; exact k⟩
end

end Go.V
