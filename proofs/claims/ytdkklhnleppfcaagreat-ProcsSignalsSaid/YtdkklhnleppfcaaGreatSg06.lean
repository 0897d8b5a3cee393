/-
  The engine, part 8: rows of cells (slices), strings, bytes. Own work.
-/
import Derived.Test.YtdkklhnleppfcaaGreatSg05
set_option linter.unusedVariables false
set_option linter.unusedSimpArgs false

set_option linter.unusedVariables false
set_option linter.unusedSimpArgs false
namespace Go.V
open Go Go.RowKit

def Row (w : World) (v : Value) (xs : List Value) (bl : Option Nat) : Prop :=
  match bl with
  | none => v = .slice none 0 0 ∧ xs = []
  | some l => ∃ rest : List Value, v = sv l xs.length (xs.length + rest.length) ∧ Cs w l (xs ++ rest)

theorem Row.fr {w w' : World} {v : Value} {xs : List Value} {bl : Option Nat} {F : Nat → Prop} (h : Row w v xs bl) (hf : Fr F w w') (hF : ∀ k, bl = some k → ¬ F k) : Row w' v xs bl := by
  cases bl with
  | none => exact h
  | some l => obtain ⟨r, h1, h2⟩ := h; exact ⟨r, h1, h2.fr hf (hF l rfl)⟩

theorem Cs.cell {w : World} {b o : Nat} {cs : List Value} {v : Value} (h : Cs w b cs) (hv : cs[o]? = some v) : w.cell? ⟨b, o, none⟩ = some v := by
  obtain ⟨T, h⟩ := h
  simp [World.cell?, h, hv]

abbrev str (l : List UInt8) : Value := .string ⟨l.toArray⟩

theorem rPNil {w : World} {K : Value → Prop} (k : K (.bool true)) : vPtr .eql (.pointer none) (.pointer none) w K := k
theorem rPNil' {w : World} {b o : Nat} {K : Value → Prop} (k : K (.bool false)) : vPtr .eql (pt b o) (.pointer none) w K := k
def RowT (T : TypeId) (w : World) (v : Value) (xs rest : List Value) (bl : Option Nat) : Prop :=
  match bl with
  | none => v = .slice none 0 0 ∧ xs = [] ∧ rest = []
  | some l => v = sv l xs.length (xs.length + rest.length) ∧ w.heap[l]? = some (.cells (xs ++ rest).toArray T (0, 0))

def Src (w : World) (x : Value) (xs : List Value) : Prop := lenV x = xs.length ∧ ∀ K : List Value → Prop, K xs → srcV 1 xs.length x w K

theorem src_slice {w : World} {q off len c : Nat} {cs : List Value} (h : Cs w q cs) (hl : off + len ≤ cs.length) : Src w (.slice (some ⟨q, off, none⟩) len c) ((cs.drop off).take len) := by
  have hlen : ((cs.drop off).take len).length = len := by simp; omega
  refine ⟨hlen.symm, fun K k => ⟨_, by simp, ?_, k⟩⟩
  intro j v hj
  rw [addr_add]
  obtain ⟨T, h⟩ := h
  simp only [World.cell?, h]
  rw [List.getElem?_take] at hj
  split at hj
  · simpa using hj
  · cases hj

theorem src_nil {w : World} {c : Nat} : Src w (.slice none 0 c) [] := ⟨rfl, fun K k => ⟨rfl, k⟩⟩

theorem rApp {P : Program} {t u e : TypeId} {i : TypeInfo} {z : Value} (ht : P.underlying t = some (.slice e)) (hi : P.info? e = some i) (hz : zc P e = some #[z]) (h1 : i.size = 1) (hu : srcK P u = true)
    {T : TypeId} {w : World} {s x : Value} {xs rest ys : List Value} {bl : Option Nat} {K : Value → World → Prop}
    (hs : RowT T w s xs rest bl) (hx : Src w x ys) (hys : ∀ y ∈ ys, y.oneCell' = true) (hb1 : (xs.length + ys.length) * i.bytes ≤ 140737488355328) (hb2 : xs.length + ys.length ≤ 140737488355328)
    (hK : ∀ w' v' rest' bl' T', RowT T' w' v' (xs ++ ys) rest' bl' → (T' = T ∨ T' = e) → Fr (fun k => bl = some k) w w' → (∀ k, bl' = some k → bl = some k ∨ w.heap.size ≤ k) → (ys ≠ [] → bl' ≠ none) → (bl ≠ none → bl' ≠ none) → K v' w') :
    vAppend P t u s x w K := by
  have key : ∀ (base : Option Addr) (n cap : Nat), s = .slice base n cap → n = xs.length →
      (n + ys.length ≤ cap → stMaybe w base (n * 1) ys (K (.slice base (n + ys.length) cap))) →
      (cap < n + ys.length → srcV 1 n s w fun olds => ∀ c, n + ys.length ≤ c → K (.slice (some ⟨w.heap.size, 0, none⟩) (n + ys.length) c) (w.drew.alloc (.cells (olds ++ ys ++ repZ [z] (c - (n + ys.length))).toArray e))) →
      vAppend P t u s x w K := by
    intro base n cap es hn ha hb
    subst es
    unfold vAppend
    simp only [ht, hi, hz, hu, h1, hx.1]
    refine ⟨by simp, hx.2 _ ⟨ha, fun hc => ⟨by rw [hn]; exact hb1, by omega, ?_⟩⟩⟩
    exact hb hc
  have grow : ∀ (c : Nat), xs.length + ys.length ≤ c → (∀ k, bl = some k → k < w.heap.size) → K (.slice (some ⟨w.heap.size, 0, none⟩) (xs.length + ys.length) c) (w.drew.alloc (.cells (xs ++ ys ++ repZ [z] (c - (xs.length + ys.length))).toArray e)) := by
    intro c hc hlt
    have hrl : (repZ [z] (c - (xs.length + ys.length))).length = c - (xs.length + ys.length) := by simp [repZ]
    refine hK _ _ (repZ [z] (c - (xs.length + ys.length))) (some w.heap.size) e ⟨?_, World.alloc_heap_new w.drew _⟩ (.inr rfl) ((Fr.refl _ w).drew.alloc _) ?_ (by simp) (by simp)
    · rw [hrl, List.length_append]
      have : xs.length + ys.length + (c - (xs.length + ys.length)) = c := by omega
      rw [this]
    · intro k hk; cases hk; exact .inr (Nat.le_refl _)
  cases bl with
  | none =>
    obtain ⟨rfl, rfl, rfl⟩ := hs
    refine key none 0 0 rfl rfl (fun h => ?_) (fun h => ?_)
    · have hy : ys = [] := List.length_eq_zero_iff.1 (by omega)
      subst hy
      exact hK w _ [] none T ⟨rfl, rfl, rfl⟩ (.inl rfl) (Fr.refl _ _) (by simp) (by simp) (by simp)
    · refine ⟨rfl, fun c hc => ?_⟩
      have := grow c (by simpa using hc) (by simp)
      simpa using this
  | some l =>
    obtain ⟨rfl, hl⟩ := hs
    refine key _ _ _ rfl rfl (fun h => ?_) (fun h => ?_)
    · simp only [stMaybe, addr_add, Nat.zero_add, Nat.mul_one]
      unfold stN
      simp only [hl]
      refine ⟨trivial, by simp; omega, by simp, hys, ?_⟩
      have esp : spl (xs ++ rest) xs.length ys = xs ++ ys ++ rest.drop ys.length := by
        simp [spl, List.drop_append, List.append_assoc]
      rw [esp]
      refine hK _ _ (rest.drop ys.length) (some l) T ⟨?_, World.putObj_heap_same (lt_of_blk hl)⟩ (.inl rfl) ((Fr.refl _ w).put _ fun _ => rfl) (fun k hk => .inl hk) (by simp) (by simp)
      have : xs.length + rest.length = (xs ++ ys).length + (rest.drop ys.length).length := by simp; omega
      rw [← this, List.length_append]
    · have hsrc := (src_slice (c := xs.length + rest.length) (len := xs.length) (off := 0) ⟨T, hl⟩ (by simp)).2
      have e0 : ((xs ++ rest).drop 0).take xs.length = xs := by simp
      rw [e0] at hsrc
      exact hsrc _ fun c hc => grow c hc (fun k hk => by cases hk; exact lt_of_blk hl)

def bts (l : List UInt8) : List Value := l.map fun b => .int .u8 b.toNat

theorem bts_len (l : List UInt8) : (bts l).length = l.length := by simp [bts]
theorem bts_app (l m : List UInt8) : bts (l ++ m) = bts l ++ bts m := by simp [bts]
theorem bts_one (l : List UInt8) : ∀ x ∈ bts l, x.oneCell' = true := by
  intro x hx
  obtain ⟨j, _, rfl⟩ := List.mem_map.1 hx
  rfl

theorem RowT.fr {T : TypeId} {w w' : World} {v : Value} {xs rest : List Value} {bl : Option Nat} {F : Nat → Prop} (h : RowT T w v xs rest bl) (hf : Fr F w w') (hF : ∀ k, bl = some k → ¬ F k) : RowT T w' v xs rest bl := by
  cases bl with
  | none => exact h
  | some l => exact ⟨h.1, hf.get h.2 (hF l rfl)⟩

theorem RowT.row {T : TypeId} {w : World} {v : Value} {xs rest : List Value} {bl : Option Nat} (h : RowT T w v xs rest bl) : Row w v xs bl := by
  cases bl with
  | none => exact ⟨h.1, h.2.1⟩
  | some l => exact ⟨rest, h.1, T, h.2⟩

theorem Row.rowT {w : World} {v : Value} {xs : List Value} {bl : Option Nat} (h : Row w v xs bl) : ∃ T rest, RowT T w v xs rest bl := by
  cases bl with
  | none => exact ⟨0, [], h.1, h.2, rfl⟩
  | some l => obtain ⟨rest, h1, T, h2⟩ := h; exact ⟨T, rest, h1, h2⟩

theorem Row.lt {w : World} {v : Value} {xs : List Value} {bl : Option Nat} (h : Row w v xs bl) : ∀ k, bl = some k → k < w.heap.size := by
  rintro k rfl
  obtain ⟨_, _, h⟩ := h
  exact h.lt

theorem rExt0 {a b : Value} {K : Value → Prop} (k : K a) : vExt (.tuple #[a, b]) 0 K := k
theorem rExt1 {a b : Value} {K : Value → Prop} (k : K b) : vExt (.tuple #[a, b]) 1 K := k
theorem rIxS {l : List UInt8} {k : Nat} {b : UInt8} {d : LD} {kd : IntKind} {K : Value → Prop} (h : l[k]? = some b) (hK : K (.int .u8 b.toNat)) : vIx .string d (str l) (.int kd k) K := by
  unfold vIx
  refine ⟨by omega, ?_⟩
  simp only [Int.toNat_natCast, h]
  exact hK

theorem repZ_one (v : Value) (n : Nat) : repZ [v] n = List.replicate n v := by
  unfold repZ
  induction n with
  | zero => rfl
  | succ n ih => simp [List.replicate_succ, ih]

theorem u8_of (n : Nat) : (UInt8.ofNat n).toNat = n % 256 := by simp

theorem or_add {x b i : Nat} (h : x < 2 ^ i) : x ||| b * 2 ^ i = x + b * 2 ^ i := by
  rw [Nat.or_comm, Nat.mul_comm, ← Nat.two_pow_add_eq_or_of_lt h, Nat.add_comm]

theorem rCv {k k' : IntKind} {n : Int} {K : Value → Prop} (h : K (.int k (k.wrap n))) : vConv (.int k) (.int k' n) K := h

theorem infoOf {P : Program} {e n : Nat} (h : (P.info? e).map (fun i => (i.size, Nat.ble i.bytes 32)) = some (n, true)) : ∃ i, P.info? e = some i ∧ i.size = n ∧ i.bytes ≤ 32 := by
  obtain ⟨i, h1, h2⟩ := Option.map_eq_some_iff.1 h
  simp only [Prod.mk.injEq] at h2
  exact ⟨i, h1, h2.1, Nat.le_of_ble_eq_true h2.2⟩


theorem Row.src {w : World} {v : Value} {xs : List Value} {bl : Option Nat} (h : Row w v xs bl) : Src w v xs := by
  cases bl with
  | none => obtain ⟨rfl, rfl⟩ := h; exact src_nil
  | some q =>
    obtain ⟨r, rfl, h2⟩ := h
    have := src_slice (off := 0) (len := xs.length) (c := xs.length + r.length) h2 (by simp)
    simpa using this

structure E1 (P : Program) (t e : TypeId) (z : Value) : Prop where
  ht : P.underlying t = some (.slice e)
  hi : ∃ i, P.info? e = some i ∧ i.size = 1 ∧ i.bytes ≤ 32
  hz : zc P e = some #[z]
  hu : srcK P t = true

section
variable {P : Program} {t e : TypeId} {z : Value} (E : E1 P t e z) {w : World} {K : Value → World → Prop}
include E

theorem E1.build1 {x : Value} (hx : x.cells = #[x]) (hK : ∀ w', Row w' (sv w.heap.size 1 1) [x] (some w.heap.size) → Fr (fun _ => False) w w' → w'.heap.size = w.heap.size + 1 → K (sv w.heap.size 1 1) w') : vBuildSlice P t 1 [(0, x)] w K := by
  obtain ⟨i, hi1, hi2, hi3⟩ := E.hi
  unfold vBuildSlice
  simp only [E.ht, E.hz, hi1, hi2]
  refine ⟨by decide, rfl, ?_⟩
  simp only [fillV, slPlace, Nat.blt, Nat.ble, cond_true]
  refine ⟨by rw [hx]; rfl, ?_⟩
  simp only [hx, spl, repZ]
  exact hK _ ⟨[], rfl, Cs.new _ [x] e⟩ ((Fr.refl _ w).alloc _) (by simp)

theorem E1.app {u : TypeId} (hu : srcK P u = true) {s x : Value} {xs ys : List Value} {bl : Option Nat} (hs : Row w s xs bl) (hx : Src w x ys) (hys : ∀ y ∈ ys, y.oneCell' = true) (hb : xs.length + ys.length ≤ 4194304)
    (hK : ∀ w' v' bl', Row w' v' (xs ++ ys) bl' → Fr (fun k => bl = some k) w w' → (∀ k, bl' = some k → bl = some k ∨ w.heap.size ≤ k) → (bl ≠ none → bl' ≠ none) → K v' w') : vAppend P t u s x w K := by
  obtain ⟨i, hi, his, hib⟩ := E.hi
  obtain ⟨T, rest, hrow⟩ := Row.rowT hs
  have hbb : (xs.length + ys.length) * i.bytes ≤ 4194304 * 32 := Nat.mul_le_mul hb hib
  refine rApp E.ht hi E.hz his hu hrow hx hys (by omega) (by omega) ?_
  intro w' v' rest' bl' T' h' _ fr hbl _ hne
  exact hK w' v' bl' h'.row fr hbl hne

end

theorem flat_len {m : Nat} : ∀ {xs : List (List Value)}, (∀ x ∈ xs, x.length = m) → xs.flatten.length = xs.length * m
  | [], _ => by simp
  | x :: xs, h => by
    rw [List.flatten_cons, List.length_append, h x (by simp), flat_len (fun y hy => h y (by simp [hy])), List.length_cons, Nat.succ_mul]; omega

theorem flat_get {m : Nat} : ∀ {xs : List (List Value)} (rest : List Value), (∀ x ∈ xs, x.length = m) → ∀ {i : Nat} {x : List Value}, xs[i]? = some x → ((xs.flatten ++ rest).drop (i * m)).take m = x
  | [], _, _, i, x, hi => by simp at hi
  | y :: xs, rest, h, 0, x, hi => by
    simp at hi; subst hi
    have := h y (by simp)
    simp [← this]
  | y :: xs, rest, h, i + 1, x, hi => by
    have hy := h y (by simp)
    have := flat_get rest (fun z (hz : z ∈ xs) => h z (List.mem_cons_of_mem _ hz)) (i := i) (x := x) (by simpa using hi)
    rw [List.flatten_cons, List.append_assoc, Nat.succ_mul, Nat.add_comm, ← List.drop_drop]
    have e : (y ++ (xs.flatten ++ rest)).drop m = xs.flatten ++ rest := by rw [← hy]; simp
    rw [e]; exact this

theorem flat_cell {m : Nat} {xs : List (List Value)} (rest : List Value) (h : ∀ x ∈ xs, x.length = m) {i j : Nat} {x : List Value} {v : Value} (hi : xs[i]? = some x) (hj : x[j]? = some v) : (xs.flatten ++ rest)[i * m + j]? = some v := by
  have e := flat_get rest h hi
  have hx := h x (List.mem_of_getElem? hi)
  have hjm : j < m := by rw [← hx]; exact (List.getElem?_eq_some_iff.1 hj).1
  rw [← e, List.getElem?_take, if_pos hjm, List.getElem?_drop] at hj
  exact hj

structure EN (P : Program) (t e : TypeId) (m : Nat) (z : List Value) : Prop where
  ht : P.underlying t = some (.slice e)
  hi : ∃ i, P.info? e = some i ∧ i.size = m ∧ i.bytes ≤ 64
  hz : zc P e = some z.toArray
  hm : z.length = m
  hu : srcK P t = true

theorem infoOf64 {P : Program} {e n : Nat} (h : (P.info? e).map (fun i => (i.size, Nat.ble i.bytes 64)) = some (n, true)) : ∃ i, P.info? e = some i ∧ i.size = n ∧ i.bytes ≤ 64 := by
  obtain ⟨i, h1, h2⟩ := Option.map_eq_some_iff.1 h
  simp only [Prod.mk.injEq] at h2
  exact ⟨i, h1, h2.1, Nat.le_of_ble_eq_true h2.2⟩

theorem repZ_len {z : List Value} {m n : Nat} (h : z.length = m) : (repZ z n).length = n * m := by
  unfold repZ
  have := flat_len (m := m) (xs := List.replicate n z) (by intro x hx; rw [(List.mem_replicate.1 hx).2, h])
  rw [this, List.length_replicate]

section
variable {P : Program} {t e : TypeId} {m : Nat} {z : List Value} (E : EN P t e m z) {w : World} {K : Value → World → Prop}
include E

end

end Go.V

/-
  The engine, part 9: what a function holds while it runs, as a row of assertions that do not touch one another. Own work.
-/
set_option linter.unusedVariables false
set_option linter.unusedSimpArgs false
namespace Go.V
open Go Go.RowKit

structure As where
  foot : Nat → Prop
  holds : World → Prop
  lt : ∀ w, holds w → ∀ k, foot k → k < w.heap.size
  fr : ∀ w w' F, holds w → Fr F w w' → (∀ k, foot k → ¬ F k) → holds w'

def As.blk (b : Nat) (cs : List Value) : As := ⟨fun k => k = b, fun w => Cs w b cs, fun w h k e => by subst e; exact h.lt, fun w w' F h f hn => h.fr f (hn b rfl)⟩
def As.row (v : Value) (xs : List Value) (bl : Option Nat) : As := ⟨fun k => bl = some k, fun w => Row w v xs bl, fun w h k e => h.lt k e, fun w w' F h f hn => h.fr f hn⟩
structure Lx (F : Nat → Prop) (w0 w : World) (L : List As) : Prop where
  fr : Fr F w0 w
  ok : ∀ a ∈ L, a.holds w
  mine : ∀ a ∈ L, ∀ k, a.foot k → F k ∨ w0.heap.size ≤ k
  dj : L.Pairwise fun a b => ∀ k, a.foot k → ¬ b.foot k

section
variable {P : Program} {F : Nat → Prop} {w0 w w' : World} {L : List As}

theorem Lx.start (F : Nat → Prop) (w : World) : Lx F w w [] := ⟨Fr.refl _ _, by simp, by simp, List.Pairwise.nil⟩

theorem Lx.more (h : Lx F w0 w L) (f : Fr (fun _ => False) w w') : Lx F w0 w' L :=
  ⟨h.fr.more f, fun a ha => a.fr _ _ _ (h.ok a ha) f (fun _ _ => id), h.mine, h.dj⟩

theorem Lx.drew (h : Lx F w0 w L) : Lx F w0 w.drew L := h.more (Fr.refl _ w).drew

theorem Lx.get (h : Lx F w0 w L) {i : Nat} {a : As} (hi : L[i]? = some a) : a.holds w := h.ok a (List.mem_of_getElem? hi)

theorem Lx.add (h : Lx F w0 w L) {a : As} (f : Fr (fun _ => False) w w') (ha : a.holds w') (hf : ∀ k, a.foot k → w.heap.size ≤ k) : Lx F w0 w' (a :: L) := by
  have h' := h.more f
  refine ⟨h'.fr, ?_, ?_, ?_⟩
  · intro b hb
    rcases List.mem_cons.1 hb with rfl | hb
    · exact ha
    · exact h'.ok b hb
  · intro b hb k hk
    rcases List.mem_cons.1 hb with rfl | hb
    · exact .inr (Nat.le_trans h.fr.size (hf k hk))
    · exact h.mine b hb k hk
  · refine List.pairwise_cons.2 ⟨fun b hb k hk hkb => ?_, h.dj⟩
    have := b.lt w (h.ok b hb) k hkb
    have := hf k hk
    omega

theorem Lx.sub (h : Lx F w0 w L) {L' : List As} (hs : L'.Sublist L) : Lx F w0 w L' :=
  ⟨h.fr, fun a ha => h.ok a (hs.subset ha), fun a ha => h.mine a (hs.subset ha), h.dj.sublist hs⟩

theorem pair_other {L : List As} (hd : L.Pairwise fun a b => ∀ k, a.foot k → ¬ b.foot k) {i j : Nat} {a b : As} (hi : L[i]? = some a) (hj : L[j]? = some b) (hn : i ≠ j) : ∀ k, a.foot k → ¬ b.foot k := by
  rw [List.pairwise_iff_getElem] at hd
  obtain ⟨hi1, rfl⟩ := List.getElem?_eq_some_iff.1 hi
  obtain ⟨hj1, rfl⟩ := List.getElem?_eq_some_iff.1 hj
  intro k ha hb
  rcases Nat.lt_or_gt_of_ne hn with h | h
  · exact hd i j hi1 hj1 h k ha hb
  · exact hd j i hj1 hi1 h k hb ha

theorem Lx.step (h : Lx F w0 w L) {i : Nat} {a a' : As} (hi : L[i]? = some a) (f : Fr a.foot w w') (ha : a'.holds w') (hf : ∀ k, a'.foot k → a.foot k ∨ w.heap.size ≤ k) : Lx F w0 w' (L.set i a') := by
  have ham := List.mem_of_getElem? hi
  have hlt := (List.getElem?_eq_some_iff.1 hi).1
  have get : ∀ (j : Nat) b, (L.set i a')[j]? = some b → (j = i ∧ b = a') ∨ (j ≠ i ∧ L[j]? = some b) := by
    intro j b hj
    rw [List.getElem?_set] at hj
    split at hj
    · rename_i e; subst e
      first | (rw [if_pos hlt] at hj) | skip
      cases hj
      exact .inl ⟨rfl, rfl⟩
    · rename_i e
      exact .inr ⟨fun e' => e e'.symm, hj⟩
  have mem : ∀ b ∈ L.set i a', b = a' ∨ ∃ j, j ≠ i ∧ L[j]? = some b := by
    intro b hb
    obtain ⟨j, hj⟩ := List.mem_iff_getElem?.1 hb
    rcases get j b hj with ⟨_, e⟩ | ⟨e, hj⟩
    · exact .inl e
    · exact .inr ⟨j, e, hj⟩
  refine ⟨?_, ?_, ?_, ?_⟩
  · refine h.fr.trans f fun k hk hak => ?_
    rcases h.mine a ham k hak with h1 | h1
    · exact h1
    · exact absurd h1 (by omega)
  · intro b hb
    rcases mem b hb with rfl | ⟨j, hn, hj⟩
    · exact ha
    · exact b.fr _ _ _ (h.get hj) f (pair_other h.dj hj hi hn)
  · intro b hb k hk
    rcases mem b hb with rfl | ⟨j, hn, hj⟩
    · rcases hf k hk with h1 | h1
      · exact h.mine a ham k h1
      · exact .inr (Nat.le_trans h.fr.size h1)
    · exact h.mine b (List.mem_of_getElem? hj) k hk
  · rw [List.pairwise_iff_getElem]
    intro x y hx hy hxy k hk1 hk2
    have g1 := get x _ (List.getElem?_eq_getElem hx)
    have g2 := get y _ (List.getElem?_eq_getElem hy)
    rcases g1 with ⟨e1, e2⟩ | ⟨e1, e2⟩
    · rcases g2 with ⟨e3, e4⟩ | ⟨e3, e4⟩
      · omega
      · rw [e2] at hk1
        rcases hf k hk1 with h1 | h1
        · exact pair_other h.dj e4 hi e3 k hk2 h1
        · have := (L.set i a')[y].lt w (h.get e4) k hk2; omega
    · rcases g2 with ⟨e3, e4⟩ | ⟨e3, e4⟩
      · rw [e4] at hk2
        rcases hf k hk2 with h1 | h1
        · exact pair_other h.dj e2 hi e1 k hk1 h1
        · have := (L.set i a')[x].lt w (h.get e2) k hk1; omega
      · exact pair_other h.dj e2 e4 (by omega) k hk1 hk2

theorem sBox {e : TypeId} {cs : Array Value} {K : Value → World → Prop} (h : Lx F w0 w L) (k : ∀ w' b, Lx F w0 w' (.blk b cs.toList :: L) → K (pt b 0) w') : vBox e (.agg cs) w K :=
  k _ _ (h.add (a := .blk w.heap.size cs.toList) ((Fr.refl _ w).alloc _) (Cs.new' w cs e) (fun k e => by rw [show k = w.heap.size from e]; exact Nat.le_refl _))
theorem sBox1 {e : TypeId} {v : Value} {K : Value → World → Prop} (hv : v.cells = #[v]) (h : Lx F w0 w L) (k : ∀ w' b, Lx F w0 w' (.blk b [v] :: L) → K (pt b 0) w') : vBox e v w K := by
  unfold vBox
  rw [hv]
  exact k _ _ (h.add (a := .blk w.heap.size [v]) ((Fr.refl _ w).alloc _) (Cs.new' w #[v] e) (fun k e => by rw [show k = w.heap.size from e]; exact Nat.le_refl _))
theorem sAlloc {e : TypeId} {z : Array Value} {K : Value → World → Prop} (hz : zc P e = some z) (h : Lx F w0 w L) (k : ∀ w' b, Lx F w0 w' (.blk b z.toList :: L) → K (pt b 0) w') : vAlloc P e w K := by
  unfold vAlloc; rw [hz]
  exact k _ _ (h.add (a := .blk w.heap.size z.toList) ((Fr.refl _ w).alloc _) (Cs.new' w z e) (fun k e => by rw [show k = w.heap.size from e]; exact Nat.le_refl _))
theorem sLd {b o i : Nat} {cs : List Value} {v : Value} {K : Value → Prop} (h : Lx F w0 w L) (hi : L[i]? = some (.blk b cs)) (hv : cs[o]? = some v) (k : K v) : vLd .one (pt b o) w K := rLd (h.get hi) hv k
theorem sLdN {b n i : Nat} {cs : List Value} {K : Value → Prop} (h : Lx F w0 w L) (hi : L[i]? = some (.blk b cs)) (hn : cs.length = n) (k : K (.agg cs.toArray)) : vLd (.agg n) (pt b 0) w K := by
  refine rLdN (h.get hi) (by omega) ?_
  rw [List.drop_zero, List.take_of_length_le (by omega)]; exact k
theorem sLdP {b o n i : Nat} {cs : List Value} {K : Value → Prop} (h : Lx F w0 w L) (hi : L[i]? = some (.blk b cs)) (hn : o + n ≤ cs.length) (k : K (.agg ((cs.drop o).take n).toArray)) : vLd (.agg n) (pt b o) w K :=
  rLdN (h.get hi) hn k
theorem sSt {b o i : Nat} {cs : List Value} {v : Value} {K : World → Prop} (h : Lx F w0 w L) (hi : L[i]? = some (.blk b cs)) (ho : o < cs.length) (hv : v.oneCell' = true) (hna : ∀ c, v ≠ .agg c)
    (k : ∀ w', Lx F w0 w' (L.set i (.blk b (cs.set o v))) → K w') : vSt (some 1) (pt b o) v w K :=
  rSt (h.get hi) ho hv hna fun w' u => k w' (h.step hi u.fr u.cs (fun _ e => .inl e))
theorem sStN {b o n i : Nat} {cs : List Value} {vs : Array Value} {K : World → Prop} (h : Lx F w0 w L) (hi : L[i]? = some (.blk b cs)) (hn : vs.size = n) (ho : o + n ≤ cs.length) (hv : ∀ x ∈ vs.toList, x.oneCell' = true)
    (k : ∀ w', Lx F w0 w' (L.set i (.blk b (spl cs o vs.toList))) → K w') : vSt (some n) (pt b o) (.agg vs) w K :=
  rStN (h.get hi) hn ho hv fun w' u => k w' (h.step hi u.fr u.cs (fun _ e => .inl e))

theorem sDraw {body : (World → Prop) → Prop} (h : Lx F w0 w L) (k : body fun W => Lx F w0 W L) : drawF w body := ⟨_, h.drew, k⟩
theorem sLdS {b o i : Nat} {cs : List Value} {v : Value} {K : Value → Prop} (hi : L[i]? = some (.blk b cs)) (hv : cs[o]? = some v) (k : K v) : vLdS (fun W => Lx F w0 W L) .one (pt b o) K :=
  rLdS v (fun W hW => ⟨cs, hW.get hi, hv⟩) k
theorem sIf {c : Bool} {A B : Prop} (ha : c = true → A) (hb : c = false → B) : vBool (.bool c) fun c => if c = true then A else B := rIf ha hb
theorem sIfD {p : Prop} [Decidable p] {A B : Prop} (ha : p → A) (hb : ¬ p → B) : vBool (.bool (decide p)) fun c => if c = true then A else B := rIf (fun h => ha (of_decide_eq_true h)) (fun h => hb (of_decide_eq_false h))
theorem sIfE {a b : Int} {A B : Prop} (ha : a = b → A) (hb : a ≠ b → B) : vBool (.bool (a == b)) fun c => if c = true then A else B := rIf (fun h => ha (by simpa using h)) (fun h => hb (by simpa using h))
theorem sIfNE {a b : Int} {A B : Prop} (ha : a ≠ b → A) (hb : a = b → B) : vBool (.bool (a != b)) fun c => if c = true then A else B := rIf (fun h => ha (by simpa using h)) (fun h => hb (by simpa using h))
theorem sJoin {sel : List Nat} {a : (List Value → List Nat → World → Prop) → Prop} {b : Env → List Nat → World → Prop} (h : a fun vs ds W => ∀ ρ, sel.map ρ = vs → b ρ ds W) : joinF sel a b :=
  ⟨_, h, fun ρ ds W hj => hj ρ rfl⟩

theorem sCv {k k' : IntKind} {n : Int} {K : Value → Prop} (h : K (.int k (k.wrap n))) : vConv (.int k) (.int k' n) K := h
theorem sExt2 {a b c : Value} {K : Value → Prop} (k : K c) : vExt (.tuple #[a, b, c]) 2 K := k
theorem sExt30 {a b c : Value} {K : Value → Prop} (k : K a) : vExt (.tuple #[a, b, c]) 0 K := k
theorem sExt31 {a b c : Value} {K : Value → Prop} (k : K b) : vExt (.tuple #[a, b, c]) 1 K := k

theorem Lx.row (h : Lx F w0 w L) {i : Nat} {v : Value} {xs : List Value} {bl : Option Nat} (hi : L[i]? = some (.row v xs bl)) : Row w v xs bl := h.get hi
theorem Lx.newRow (h : Lx F w0 w L) {v : Value} {xs : List Value} {b : Nat} (hr : Row w' v xs (some b)) (hb : w.heap.size ≤ b) (f : Fr (fun _ => False) w w') : Lx F w0 w' (.row v xs (some b) :: L) :=
  h.add (a := .row v xs (some b)) f hr (fun k e => by cases (show some b = some k from e); exact hb)
theorem Lx.nilRow (h : Lx F w0 w L) : Lx F w0 w (.row (.slice none 0 0) [] none :: L) :=
  h.add (a := .row (.slice none 0 0) [] none) (Fr.refl _ _) ⟨rfl, rfl⟩ (fun k e => by cases (show none = some k from e))
variable {t e : TypeId} {z : Value}

theorem sApp (E : E1 P t e z) {u : TypeId} (hu : srcK P u = true) {i : Nat} {s x : Value} {xs ys : List Value} {bl : Option Nat} {K : Value → World → Prop} (h : Lx F w0 w L) (hi : L[i]? = some (.row s xs bl)) (hx : Src w x ys) (hys : ∀ y ∈ ys, y.oneCell' = true) (hb : xs.length + ys.length ≤ 4194304)
    (k : ∀ w' v' bl', Lx F w0 w' (L.set i (.row v' (xs ++ ys) bl')) → (bl ≠ none → bl' ≠ none) → K v' w') : vAppend P t u s x w K :=
  E.app hu (h.row hi) hx hys hb fun w' v' bl' hr f hbl hne => k w' v' bl' (h.step (a' := .row v' (xs ++ ys) bl') hi f hr hbl) hne

theorem sApp1 (E : E1 P t e z) {i : Nat} {s x : Value} {xs : List Value} {bl : Option Nat} {K : Value → World → Prop} (h : Lx F w0 w L) (hi : L[i]? = some (.row s xs bl)) (hone : x.oneCell' = true) (hb : xs.length + 1 ≤ 4194304)
    (k : ∀ w' v' bl', Lx F w0 w' (L.set i (.row v' (xs ++ [x]) bl')) → (bl ≠ none → bl' ≠ none) → K v' w') : vBuildSlice P t 1 [(0, x)] w fun v w => vAppend P t t s v w K := by
  refine E.build1 (cells_one hone) fun w1 hr f hs => ?_
  have h1 := h.more f
  exact sApp E E.hu h1 hi hr.src (by intro y hy; rw [List.mem_singleton.1 hy]; exact hone) (by simpa using hb) k

theorem fill_lit {n : Nat} {z : Value} : ∀ (ys done : List Value) (K : List Value → Prop), done.length + ys.length = n → (∀ y ∈ ys, y.oneCell' = true) → K (done ++ ys) →
    fillV (slPlace n 1) (done ++ List.replicate ys.length z) ((List.range' done.length ys.length).zip ys) K
  | [], done, K, _, _, k => by simpa [fillV] using k
  | y :: ys, done, K, hn, h1, k => by
    simp only [List.length_cons] at hn ⊢
    rw [List.range'_succ, List.zip_cons_cons]
    unfold fillV
    have hlt : Nat.blt done.length n = true := by simp; omega
    have hsp : slPlace n 1 done.length = some (done.length, 1) := by simp [slPlace, hlt]
    rw [hsp]
    refine ⟨by rw [cells_one (h1 y (by simp))]; rfl, ?_⟩
    have e1 : spl (done ++ List.replicate (ys.length + 1) z) done.length y.cells.toList = (done ++ [y]) ++ List.replicate ys.length z := by
      rw [cells_one (h1 y (by simp))]
      simp [spl, List.replicate_succ, List.append_assoc]
    rw [e1]
    have := fill_lit (n := n) (z := z) ys (done ++ [y]) K (by simp; omega) (fun v hv => h1 v (by simp [hv])) (by simpa using k)
    simpa using this

theorem sBuild (E : E1 P t e z) {K : Value → World → Prop} (h : Lx F w0 w L) (ys : List Value) (hone : ∀ y ∈ ys, y.oneCell' = true) (hn : ys.length ≤ 1000)
    (k : ∀ w' b, Lx F w0 w' (.row (sv b ys.length ys.length) ys (some b) :: L) → K (sv b ys.length ys.length) w') : vBuildSlice P t ys.length ((List.range' 0 ys.length).zip ys) w K := by
  obtain ⟨i, hi1, hi2, hi3⟩ := E.hi
  unfold vBuildSlice
  simp only [E.ht, E.hz, hi1, hi2]
  refine ⟨by omega, rfl, ?_⟩
  have e1 : repZ [z] ys.length = [] ++ List.replicate ys.length z := by rw [repZ_one]; rfl
  rw [e1]
  refine fill_lit ys [] _ (by simp) hone ?_
  refine k _ w.heap.size (h.newRow (w' := w.alloc (.cells ys.toArray e)) ⟨[], by simp, ?_⟩ (Nat.le_refl _) ((Fr.refl _ w).alloc _))
  rw [List.append_nil]
  exact Cs.new _ _ _

theorem sBuild1 (E : E1 P t e z) {K : Value → World → Prop} {x : Value} (h : Lx F w0 w L) (hone : x.oneCell' = true)
    (k : ∀ w' b, Lx F w0 w' (.row (sv b 1 1) [x] (some b) :: L) → K (sv b 1 1) w') : vBuildSlice P t 1 [(0, x)] w K :=
  sBuild E h [x] (by intro y hy; rw [List.mem_singleton.1 hy]; exact hone) (by simp) k
def MapS (w : World) (b : Nat) (ks : List (ByteArray × Value)) : Prop := ∃ es c, w.heap[b]? = some (.map es c) ∧ mapIs es ks
theorem MapS.look {t kt et : TypeId} {z : Value} (hu : P.underlying t = some (.map kt et)) (hk : P.underlying kt = some .string) (hz : (P.info? et).bind (·.zero) = some z) {b : Nat} {ks : List (ByteArray × Value)} {s : ByteArray} {ok : Bool} {K : Value → Prop}
    (h : MapS w b ks) (k1 : ∀ v, mapAt s ks = some v → K (if ok then .tuple #[v, .bool true] else v)) (k2 : mapAt s ks = none → K (if ok then .tuple #[z, .bool false] else z)) : vLookup P t (.map (some b)) (.string s) ok w K := by
  obtain ⟨es, c, h1, h2⟩ := h
  unfold vLookup
  simp only [hu, h1, hz]
  refine ⟨hk, ks, h2, ?_⟩
  cases hm : mapAt s ks with
  | none => exact k2 hm
  | some v => exact k1 v hm

end

end Go.V
