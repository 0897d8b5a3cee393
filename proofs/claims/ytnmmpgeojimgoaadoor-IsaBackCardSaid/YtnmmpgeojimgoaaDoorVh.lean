/-
  The engine, part 8: rows of cells (slices), strings, bytes. Own work.
-/
import Derived.Test.YtnmmpgeojimgoaaDoorVg
set_option linter.unusedVariables false
set_option linter.unusedSimpArgs false
namespace Go.V
open Go Go.RowKit

def Row (w : World) (v : Value) (xs : List Value) (bl : Option Nat) : Prop :=
  match bl with
  | none => v = .slice none 0 0 ∧ xs = []
  | some l => ∃ rest : List Value, v = sv l xs.length (xs.length + rest.length) ∧ Cs w l (xs ++ rest)

theorem Row.fr {w w' : World} {v : Value} {xs : List Value} {bl : Option Nat} {F : Nat → Prop} (h : Row w v xs bl) (hf : Fr F w w') (hF : ∀ k, bl = some k → ¬ F k) : Row w' v xs bl := by
  cases bl with
  | none => exact h
  | some l => obtain ⟨r, h1, h2⟩ := h; exact ⟨r, h1, h2.fr hf (hF l rfl)⟩

theorem Cs.cell {w : World} {b o : Nat} {cs : List Value} {v : Value} (h : Cs w b cs) (hv : cs[o]? = some v) : w.cell? ⟨b, o, none⟩ = some v := by
  obtain ⟨T, h⟩ := h
  simp [World.cell?, h, hv]

abbrev str (l : List UInt8) : Value := .string ⟨l.toArray⟩

theorem ret_of_calls {P : Program} {f : FuncId} {args : Array Value} {w : World} {K : Value → World → Prop} (hE : Enters P f) (h : Calls P f args w fun e w' => ∃ v, e = .returned v ∧ K v w') : Ret P f args w K :=
  ⟨hE, callsIn_wide.2 h⟩

theorem fr_of_below {w w' : World} (h : Below w.heap.size w w') : Fr (fun _ => False) w w' := ⟨h.os, h.tape, h.output, h.size, fun k hk _ => h.block k hk⟩
theorem below_of_fr {w w' : World} (h : Fr (fun _ => False) w w') : Below w.heap.size w w' := ⟨h.os, h.tape, h.output, h.size, fun k hk => h.same k hk id⟩

theorem rPNil {w : World} {K : Value → Prop} (k : K (.bool true)) : vPtr .eql (.pointer none) (.pointer none) w K := k
theorem rPNil' {w : World} {b o : Nat} {K : Value → Prop} (k : K (.bool false)) : vPtr .eql (pt b o) (.pointer none) w K := k
def RowT (T : TypeId) (w : World) (v : Value) (xs rest : List Value) (bl : Option Nat) : Prop :=
  match bl with
  | none => v = .slice none 0 0 ∧ xs = [] ∧ rest = []
  | some l => v = sv l xs.length (xs.length + rest.length) ∧ w.heap[l]? = some (.cells (xs ++ rest).toArray T (0, 0))

def Src (w : World) (x : Value) (xs : List Value) : Prop := lenV x = xs.length ∧ ∀ K : List Value → Prop, K xs → srcV 1 xs.length x w K

theorem src_slice {w : World} {q off len c : Nat} {cs : List Value} (h : Cs w q cs) (hl : off + len ≤ cs.length) : Src w (.slice (some ⟨q, off, none⟩) len c) ((cs.drop off).take len) := by
  have hlen : ((cs.drop off).take len).length = len := by simp; omega
  refine ⟨hlen.symm, fun K k => ⟨_, by simp, ?_, k⟩⟩
  intro j v hj
  rw [addr_add]
  obtain ⟨T, h⟩ := h
  simp only [World.cell?, h]
  rw [List.getElem?_take] at hj
  split at hj
  · simpa using hj
  · cases hj

theorem src_nil {w : World} {c : Nat} : Src w (.slice none 0 c) [] := ⟨rfl, fun K k => ⟨rfl, k⟩⟩

theorem src_str {w : World} (l : List UInt8) : Src w (str l) (l.map fun b => .int .u8 b.toNat) := by
  have : (str l : Value) = .string ⟨l.toArray⟩ := rfl
  refine ⟨by simp [lenV, ByteArray.size], fun K k => ?_⟩
  simp only [srcV, List.length_map]
  refine ⟨trivial, ?_⟩
  rw [List.take_of_length_le (by simp)]
  exact k

theorem rApp {P : Program} {t u e : TypeId} {i : TypeInfo} {z : Value} (ht : P.underlying t = some (.slice e)) (hi : P.info? e = some i) (hz : zc P e = some #[z]) (h1 : i.size = 1) (hu : srcK P u = true)
    {T : TypeId} {w : World} {s x : Value} {xs rest ys : List Value} {bl : Option Nat} {K : Value → World → Prop}
    (hs : RowT T w s xs rest bl) (hx : Src w x ys) (hys : ∀ y ∈ ys, y.oneCell' = true) (hb1 : (xs.length + ys.length) * i.bytes ≤ 140737488355328) (hb2 : xs.length + ys.length ≤ 140737488355328)
    (hK : ∀ w' v' rest' bl' T', RowT T' w' v' (xs ++ ys) rest' bl' → (T' = T ∨ T' = e) → Fr (fun k => bl = some k) w w' → (∀ k, bl' = some k → bl = some k ∨ w.heap.size ≤ k) → (ys ≠ [] → bl' ≠ none) → (bl ≠ none → bl' ≠ none) → K v' w') :
    vAppend P t u s x w K := by
  have key : ∀ (base : Option Addr) (n cap : Nat), s = .slice base n cap → n = xs.length →
      (n + ys.length ≤ cap → stMaybe w base (n * 1) ys (K (.slice base (n + ys.length) cap))) →
      (cap < n + ys.length → srcV 1 n s w fun olds => ∀ c, n + ys.length ≤ c → K (.slice (some ⟨w.heap.size, 0, none⟩) (n + ys.length) c) (w.drew.alloc (.cells (olds ++ ys ++ repZ [z] (c - (n + ys.length))).toArray e))) →
      vAppend P t u s x w K := by
    intro base n cap es hn ha hb
    subst es
    unfold vAppend
    simp only [ht, hi, hz, hu, h1, hx.1]
    refine ⟨by simp, hx.2 _ ⟨ha, fun hc => ⟨by rw [hn]; exact hb1, by omega, ?_⟩⟩⟩
    exact hb hc
  have grow : ∀ (c : Nat), xs.length + ys.length ≤ c → (∀ k, bl = some k → k < w.heap.size) → K (.slice (some ⟨w.heap.size, 0, none⟩) (xs.length + ys.length) c) (w.drew.alloc (.cells (xs ++ ys ++ repZ [z] (c - (xs.length + ys.length))).toArray e)) := by
    intro c hc hlt
    have hrl : (repZ [z] (c - (xs.length + ys.length))).length = c - (xs.length + ys.length) := by simp [repZ]
    refine hK _ _ (repZ [z] (c - (xs.length + ys.length))) (some w.heap.size) e ⟨?_, World.alloc_heap_new w.drew _⟩ (.inr rfl) ((Fr.refl _ w).drew.alloc _) ?_ (by simp) (by simp)
    · rw [hrl, List.length_append]
      have : xs.length + ys.length + (c - (xs.length + ys.length)) = c := by omega
      rw [this]
    · intro k hk; cases hk; exact .inr (Nat.le_refl _)
  cases bl with
  | none =>
    obtain ⟨rfl, rfl, rfl⟩ := hs
    refine key none 0 0 rfl rfl (fun h => ?_) (fun h => ?_)
    · have hy : ys = [] := List.length_eq_zero_iff.1 (by omega)
      subst hy
      exact hK w _ [] none T ⟨rfl, rfl, rfl⟩ (.inl rfl) (Fr.refl _ _) (by simp) (by simp) (by simp)
    · refine ⟨rfl, fun c hc => ?_⟩
      have := grow c (by simpa using hc) (by simp)
      simpa using this
  | some l =>
    obtain ⟨rfl, hl⟩ := hs
    refine key _ _ _ rfl rfl (fun h => ?_) (fun h => ?_)
    · simp only [stMaybe, addr_add, Nat.zero_add, Nat.mul_one]
      unfold stN
      simp only [hl]
      refine ⟨trivial, by simp; omega, by simp, hys, ?_⟩
      have esp : spl (xs ++ rest) xs.length ys = xs ++ ys ++ rest.drop ys.length := by
        simp [spl, List.drop_append, List.append_assoc]
      rw [esp]
      refine hK _ _ (rest.drop ys.length) (some l) T ⟨?_, World.putObj_heap_same (lt_of_blk hl)⟩ (.inl rfl) ((Fr.refl _ w).put _ fun _ => rfl) (fun k hk => .inl hk) (by simp) (by simp)
      have : xs.length + rest.length = (xs ++ ys).length + (rest.drop ys.length).length := by simp; omega
      rw [← this, List.length_append]
    · have hsrc := (src_slice (c := xs.length + rest.length) (len := xs.length) (off := 0) ⟨T, hl⟩ (by simp)).2
      have e0 : ((xs ++ rest).drop 0).take xs.length = xs := by simp
      rw [e0] at hsrc
      exact hsrc _ fun c hc => grow c hc (fun k hk => by cases hk; exact lt_of_blk hl)

def bts (l : List UInt8) : List Value := l.map fun b => .int .u8 b.toNat

theorem bts_len (l : List UInt8) : (bts l).length = l.length := by simp [bts]
theorem bts_app (l m : List UInt8) : bts (l ++ m) = bts l ++ bts m := by simp [bts]
theorem bts_one (l : List UInt8) : ∀ x ∈ bts l, x.oneCell' = true := by
  intro x hx
  obtain ⟨j, _, rfl⟩ := List.mem_map.1 hx
  rfl

theorem RowT.fr {T : TypeId} {w w' : World} {v : Value} {xs rest : List Value} {bl : Option Nat} {F : Nat → Prop} (h : RowT T w v xs rest bl) (hf : Fr F w w') (hF : ∀ k, bl = some k → ¬ F k) : RowT T w' v xs rest bl := by
  cases bl with
  | none => exact h
  | some l => exact ⟨h.1, hf.get h.2 (hF l rfl)⟩

theorem RowT.row {T : TypeId} {w : World} {v : Value} {xs rest : List Value} {bl : Option Nat} (h : RowT T w v xs rest bl) : Row w v xs bl := by
  cases bl with
  | none => exact ⟨h.1, h.2.1⟩
  | some l => exact ⟨rest, h.1, T, h.2⟩

theorem Row.rowT {w : World} {v : Value} {xs : List Value} {bl : Option Nat} (h : Row w v xs bl) : ∃ T rest, RowT T w v xs rest bl := by
  cases bl with
  | none => exact ⟨0, [], h.1, h.2, rfl⟩
  | some l => obtain ⟨rest, h1, T, h2⟩ := h; exact ⟨T, rest, h1, h2⟩

theorem putAll2 (ρ : Env) (i j : Nat) (x y : Value) : putAll ρ [i, j] [x, y] = put (put ρ (some i) x) (some j) y := rfl

theorem Fr.then2 {F G : Nat → Prop} {a b c : World} (h : Fr F a b) (k : Fr G b c) : Fr (fun x => F x ∨ G x) a c :=
  (h.mono fun _ _ => .inl).trans k fun _ _ => .inr

theorem Row.val {w : World} {v : Value} {xs : List Value} {bl : Option Nat} (h : Row w v xs bl) : v.oneCell' = true ∧ (∀ c, v ≠ .agg c) ∧ ∃ a c, v = .slice a xs.length c := by
  cases bl with
  | none => obtain ⟨rfl, rfl⟩ := h; exact ⟨rfl, by simp, _, _, rfl⟩
  | some l => obtain ⟨r, rfl, _⟩ := h; exact ⟨rfl, by simp, _, _, rfl⟩

theorem Row.lt {w : World} {v : Value} {xs : List Value} {bl : Option Nat} (h : Row w v xs bl) : ∀ k, bl = some k → k < w.heap.size := by
  rintro k rfl
  obtain ⟨_, _, h⟩ := h
  exact h.lt

theorem row_cut {w : World} {v : Value} {xs : List Value} {bl : Option Nat} {m : Nat} {K : Value → Prop} (h : Row w v xs bl) (hm : m ≤ xs.length) (hK : ∀ v', Row w v' (xs.take m) bl → K v') : vSlice (.slice 1) v none (some (it m)) K := by
  have ht : (xs.take m).length = m := by simp; omega
  cases bl with
  | none =>
    obtain ⟨rfl, rfl⟩ := h
    have : m = 0 := by simpa using hm
    subst this
    exact ⟨by omega, by simp, hK _ ⟨rfl, by simp⟩⟩
  | some l =>
    obtain ⟨rest, rfl, hl⟩ := h
    refine ⟨by omega, by omega, ?_⟩
    show K _
    have e : (if xs.length + rest.length = 0 then some (⟨l, 0, none⟩ : Addr) else (some (⟨l, 0, none⟩ : Addr)).map (·.add (0 * 1))) = some ⟨l, 0, none⟩ := by
      split
      · rfl
      · simp [Addr.add]
    rw [e]
    refine hK _ ⟨xs.drop m ++ rest, ?_, ?_⟩
    · rw [ht]
      have e2 : m + (xs.drop m ++ rest).length = xs.length + rest.length := by simp; omega
      rw [e2]
      simp
    · rw [← List.append_assoc, List.take_append_drop]; exact hl

theorem rExt0 {a b : Value} {K : Value → Prop} (k : K a) : vExt (.tuple #[a, b]) 0 K := k
theorem rExt1 {a b : Value} {K : Value → Prop} (k : K b) : vExt (.tuple #[a, b]) 1 K := k
theorem rSEq {l m : List UInt8} {K : Value → Prop} (k : K (.bool (l == m))) : vBin .string .eql (str l) (str m) K := k
theorem rSNe {l m : List UInt8} {K : Value → Prop} (k : K (.bool (!(l == m)))) : vBin .string .neq (str l) (str m) K := k

theorem beq_self_list (l : List UInt8) : (l == l) = true := by simp

theorem rIxS {l : List UInt8} {k : Nat} {b : UInt8} {d : LD} {kd : IntKind} {K : Value → Prop} (h : l[k]? = some b) (hK : K (.int .u8 b.toNat)) : vIx .string d (str l) (.int kd k) K := by
  unfold vIx
  refine ⟨by omega, ?_⟩
  simp only [Int.toNat_natCast, h]
  exact hK

theorem rNe8 {a b : Int} {K : Value → Prop} (k : K (.bool (a != b))) : vBin (.int .u8) .neq (.int .u8 a) (.int .u8 b) K := ⟨rfl, k⟩

def Bs (w : World) (v : Value) (l : List UInt8) (bl : Option Nat) : Prop := Row w v (bts l) bl

theorem Bs.fr {w w' : World} {v : Value} {l : List UInt8} {bl : Option Nat} {F : Nat → Prop} (h : Bs w v l bl) (hf : Fr F w w') (hF : ∀ k, bl = some k → ¬ F k) : Bs w' v l bl := Row.fr h hf hF
theorem Bs.more {w w' : World} {v : Value} {l : List UInt8} {bl : Option Nat} (h : Bs w v l bl) (hf : Fr (fun _ => False) w w') : Bs w' v l bl := h.fr hf fun _ _ => id
theorem Bs.lt {w : World} {v : Value} {l : List UInt8} {bl : Option Nat} (h : Bs w v l bl) : ∀ k, bl = some k → k < w.heap.size := by
  rintro k rfl
  obtain ⟨r, h1, h2⟩ := h
  exact h2.lt

theorem bts_nil {l : List UInt8} (h : bts l = []) : l = [] := by simpa [bts] using h

theorem Bs.shape {w : World} {v : Value} {l : List UInt8} {bl : Option Nat} (h : Bs w v l bl) : ∃ a c, v = .slice a l.length c := by
  cases bl with
  | none => obtain ⟨h1, h2⟩ := h; have := bts_nil h2
            subst this; exact ⟨_, _, h1⟩
  | some k => obtain ⟨r, h1, h2⟩ := h; rw [bts_len] at h1; exact ⟨_, _, h1⟩

theorem Bs.lenE {w : World} {v : Value} {l : List UInt8} {bl : Option Nat} (h : Bs w v l bl) {K : Value → Prop} (k : K (it l.length)) : vLen (.slice 1) v K := by
  obtain ⟨a, c, rfl⟩ := h.shape
  exact k

theorem Bs.read {w : World} {v : Value} {l : List UInt8} {bl : Option Nat} (h : Bs w v l bl) {i : Nat} {x : UInt8} (hx : l[i]? = some x) {kd : IntKind} {K : Value → Prop} (k : K (.int .u8 x.toNat)) :
    vIA (.slice 1) v (.int kd i) fun p => vLd .one p w K := by
  have hi := (List.getElem?_eq_some_iff.1 hx).1
  cases bl with
  | none => obtain ⟨h1, h2⟩ := h; have := bts_nil h2
            subst this; simp at hi
  | some q =>
    obtain ⟨r, rfl, h2⟩ := h
    refine rIA (by rw [bts_len]; exact hi) ?_
    refine rLd h2 (v := .int .u8 x.toNat) ?_ k
    rw [Nat.mul_one, List.getElem?_append_left (by rw [bts_len]; exact hi)]
    simp [bts, hx]

theorem b2s_at {w : World} {q off n c : Nat} {cs : List Value} {l : List UInt8} (h : Cs w q cs) (hn : l.length = n) (hl : ∀ (j : Nat) (b : UInt8), l[j]? = some b → cs[off + j]? = some (.int .u8 b.toNat)) {K : Value → Prop} (k : K (str l)) :
    vB2S (.slice (some ⟨q, off, none⟩) n c) w K := by
  refine ⟨l, hn, ?_, k⟩
  intro j b hj
  rw [addr_add]
  exact Cs.cell h (hl j b hj)

theorem Bs.toStr {w : World} {v : Value} {l : List UInt8} {bl : Option Nat} (h : Bs w v l bl) {K : Value → Prop} (k : K (str l)) : vB2S v w K := by
  cases bl with
  | none => obtain ⟨rfl, h2⟩ := h; have := bts_nil h2
            subst this; exact k
  | some q =>
    obtain ⟨r, rfl, h2⟩ := h
    refine b2s_at h2 (by rw [bts_len]) (fun j b hj => ?_) k
    rw [Nat.zero_add, List.getElem?_append_left (by rw [bts_len]; exact (List.getElem?_eq_some_iff.1 hj).1)]
    simp [bts, hj]

theorem Bs.cut {w : World} {v : Value} {l : List UInt8} {bl : Option Nat} (h : Bs w v l bl) {a k : Nat} {k1 k2 : IntKind} (hak : a + k ≤ l.length) {K : Value → Prop} (kk : K (str ((l.drop a).take k))) :
    vSlice (.slice 1) v (some (.int k1 a)) (some (.int k2 ((a + k : Nat) : Int))) fun u => vB2S u w K := by
  cases bl with
  | none =>
    obtain ⟨rfl, h2⟩ := h; have := bts_nil h2
    subst this
    have : a = 0 := by simp at hak; omega
    subst this
    have : k = 0 := by simp at hak; omega
    subst this
    refine ⟨by omega, by omega, by omega, by omega, ?_⟩
    have kk' : K (str []) := by simpa using kk
    have : vB2S (.slice none 0 0) w K := kk'
    simpa using this
  | some q =>
    obtain ⟨r, rfl, h2⟩ := h
    rw [bts_len]
    refine ⟨by omega, by omega, by omega, by omega, ?_⟩
    simp only [Int.toNat_natCast, Nat.add_sub_cancel_left]
    by_cases hk : k = 0
    · subst hk
      have : ∀ A c, vB2S (.slice (some A) 0 c) w K := fun A c => ⟨[], rfl, by simp, by simpa using kk⟩
      split
      · exact this _ _
      · exact this _ _
    · rw [if_neg (by omega)]
      show vB2S (.slice (some (Addr.add ⟨q, 0, none⟩ (a * 1))) k _) w K
      rw [addr_add]
      refine b2s_at h2 (by simp; omega) (fun j b hj => ?_) kk
      rw [List.getElem?_take] at hj
      split at hj
      · rw [List.getElem?_drop] at hj
        have := (List.getElem?_eq_some_iff.1 hj).1
        rw [List.getElem?_append_left (by rw [bts_len]; omega)]
        simp [bts, hj]
      · cases hj

theorem Bs.write {w : World} {q : Nat} {v : Value} {l : List UInt8} (h : Bs w v l (some q)) {i : Nat} {x : UInt8} (hi : i < l.length) {kd : IntKind} {K : World → Prop}
    (k : ∀ w', Bs w' v (l.set i x) (some q) → Fr (fun k => k = q) w w' → w'.heap.size = w.heap.size → K w') : vIA (.slice 1) v (.int kd i) fun p => vSt (some 1) p (.int .u8 x.toNat) w K := by
  obtain ⟨r, rfl, h2⟩ := h
  refine rIA (by rw [bts_len]; exact hi) ?_
  refine rSt h2 (by simp [bts_len]; omega) rfl (by simp) ?_
  intro w' u
  refine k w' ⟨r, by simp [bts], ?_⟩ u.fr u.size
  have : bts (l.set i x) ++ r = (bts l ++ r).set (i * 1) (.int .u8 x.toNat) := by
    rw [Nat.mul_one, List.set_append_left _ _ (by rw [bts_len]; exact hi)]
    simp [bts, List.map_set]
  rw [this]
  exact u.cs

theorem Bs.src {w : World} {v : Value} {l : List UInt8} {bl : Option Nat} (h : Bs w v l bl) : Src w v (bts l) := by
  cases bl with
  | none => obtain ⟨rfl, h2⟩ := h; rw [h2]; exact src_nil
  | some q =>
    obtain ⟨r, rfl, h2⟩ := h
    have := src_slice (off := 0) (len := (bts l).length) (c := (bts l).length + r.length) h2 (by simp)
    simpa using this

theorem repZ_one (v : Value) (n : Nat) : repZ [v] n = List.replicate n v := by
  unfold repZ
  induction n with
  | zero => rfl
  | succ n ih => simp [List.replicate_succ, ih]

theorem bts_rep (n : Nat) : repZ [Value.int .u8 0] n = bts (List.replicate n 0) := by
  unfold repZ bts
  induction n with
  | zero => rfl
  | succ n ih => simp [List.replicate_succ] at ih ⊢

theorem u8_of (n : Nat) : (UInt8.ofNat n).toNat = n % 256 := by simp

theorem wrap_u64 {n : Int} (h0 : 0 ≤ n) (h1 : n < 18446744073709551616) : IntKind.u64.wrap n = n := by
  have e : IntKind.u64.wrap n = n % 18446744073709551616 := by simp [IntKind.wrap, IntKind.signed, IntKind.bits]
  rw [e]; omega

theorem wrap_u8 (n : Nat) : IntKind.u8.wrap n = ((UInt8.ofNat n).toNat : Nat) := by
  have e : IntKind.u8.wrap (n : Int) = (n : Int) % 256 := by simp [IntKind.wrap, IntKind.signed, IntKind.bits]
  rw [e, u8_of]; omega

theorem or_add {x b i : Nat} (h : x < 2 ^ i) : x ||| b * 2 ^ i = x + b * 2 ^ i := by
  rw [Nat.or_comm, Nat.mul_comm, ← Nat.two_pow_add_eq_or_of_lt h, Nat.add_comm]

theorem rCv {k k' : IntKind} {n : Int} {K : Value → Prop} (h : K (.int k (k.wrap n))) : vConv (.int k) (.int k' n) K := h

theorem rSlA0 {n es q o : Nat} {K : Value → Prop} (h : n ≠ 0) (k : K (.slice (some ⟨q, o, none⟩) n n)) : vSlice (.arr n es) (pt q o) none none K := by
  show K (.slice (some (if n = 0 then ⟨q, o, none⟩ else Addr.add ⟨q, o, none⟩ (0 * es))) (n - 0) (n - 0))
  rw [if_neg h, addr_add]
  simpa using k

theorem infoOf {P : Program} {e n : Nat} (h : (P.info? e).map (fun i => (i.size, Nat.ble i.bytes 32)) = some (n, true)) : ∃ i, P.info? e = some i ∧ i.size = n ∧ i.bytes ≤ 32 := by
  obtain ⟨i, h1, h2⟩ := Option.map_eq_some_iff.1 h
  simp only [Prod.mk.injEq] at h2
  exact ⟨i, h1, h2.1, Nat.le_of_ble_eq_true h2.2⟩


theorem rowLt {w : World} {v : Value} {xs : List Value} {q : Nat} (h : Row w v xs (some q)) : q < w.heap.size := let ⟨_, _, h⟩ := h; h.lt

theorem Row.src {w : World} {v : Value} {xs : List Value} {bl : Option Nat} (h : Row w v xs bl) : Src w v xs := by
  cases bl with
  | none => obtain ⟨rfl, rfl⟩ := h; exact src_nil
  | some q =>
    obtain ⟨r, rfl, h2⟩ := h
    have := src_slice (off := 0) (len := xs.length) (c := xs.length + r.length) h2 (by simp)
    simpa using this

theorem rBoxA {e : TypeId} {cs : Array Value} {w : World} {K : Value → World → Prop} (k : ∀ w', Cs w' w.heap.size cs.toList → Fr (fun _ => False) w w' → w'.heap.size = w.heap.size + 1 → K (pt w.heap.size 0) w') : vBox e (.agg cs) w K :=
  k _ (Cs.new' w cs e) ((Fr.refl _ w).alloc _) (by simp)

structure E1 (P : Program) (t e : TypeId) (z : Value) : Prop where
  ht : P.underlying t = some (.slice e)
  hi : ∃ i, P.info? e = some i ∧ i.size = 1 ∧ i.bytes ≤ 32
  hz : zc P e = some #[z]
  hu : srcK P t = true

section
variable {P : Program} {t e : TypeId} {z : Value} (E : E1 P t e z) {w : World} {K : Value → World → Prop}
include E

theorem E1.build0 (hK : ∀ w', Row w' (sv w.heap.size 0 0) [] (some w.heap.size) → Fr (fun _ => False) w w' → w'.heap.size = w.heap.size + 1 → K (sv w.heap.size 0 0) w') : vBuildSlice P t 0 [] w K := by
  obtain ⟨i, hi1, hi2, hi3⟩ := E.hi
  unfold vBuildSlice
  simp only [E.ht, E.hz, hi1, hi2]
  refine ⟨by decide, rfl, ?_⟩
  exact hK _ ⟨[], rfl, Cs.new _ [] e⟩ ((Fr.refl _ w).alloc _) (by simp)

theorem E1.build1 {x : Value} (hx : x.cells = #[x]) (hK : ∀ w', Row w' (sv w.heap.size 1 1) [x] (some w.heap.size) → Fr (fun _ => False) w w' → w'.heap.size = w.heap.size + 1 → K (sv w.heap.size 1 1) w') : vBuildSlice P t 1 [(0, x)] w K := by
  obtain ⟨i, hi1, hi2, hi3⟩ := E.hi
  unfold vBuildSlice
  simp only [E.ht, E.hz, hi1, hi2]
  refine ⟨by decide, rfl, ?_⟩
  simp only [fillV, slPlace, Nat.blt, Nat.ble, cond_true]
  refine ⟨by rw [hx]; rfl, ?_⟩
  simp only [hx, spl, repZ]
  exact hK _ ⟨[], rfl, Cs.new _ [x] e⟩ ((Fr.refl _ w).alloc _) (by simp)

theorem E1.mks {n : Nat} {kd1 kd2 : IntKind} (hn : n ≤ 4194304) (hK : ∀ w', Row w' (sv w.heap.size n n) (List.replicate n z) (some w.heap.size) → Fr (fun _ => False) w w' → w'.heap.size = w.heap.size + 1 → K (sv w.heap.size n n) w') :
    vMakeSlice P t (.int kd1 n) (.int kd2 n) w K := by
  obtain ⟨i, hi1, hi2, hi3⟩ := E.hi
  unfold vMakeSlice
  simp only [E.ht, E.hz, hi1]
  have hb : n * i.bytes ≤ 4194304 * 32 := Nat.mul_le_mul hn hi3
  refine ⟨by omega, by omega, by omega, by rw [← Int.natCast_mul]; omega, hi2.symm, ?_⟩
  rw [Int.toNat_natCast, repZ_one]
  refine hK _ ⟨[], by simp, ?_⟩ ((Fr.refl _ w).alloc _) (by simp)
  rw [List.append_nil]
  exact Cs.new _ _ e

theorem E1.app {u : TypeId} (hu : srcK P u = true) {s x : Value} {xs ys : List Value} {bl : Option Nat} (hs : Row w s xs bl) (hx : Src w x ys) (hys : ∀ y ∈ ys, y.oneCell' = true) (hb : xs.length + ys.length ≤ 4194304)
    (hK : ∀ w' v' bl', Row w' v' (xs ++ ys) bl' → Fr (fun k => bl = some k) w w' → (∀ k, bl' = some k → bl = some k ∨ w.heap.size ≤ k) → (bl ≠ none → bl' ≠ none) → K v' w') : vAppend P t u s x w K := by
  obtain ⟨i, hi, his, hib⟩ := E.hi
  obtain ⟨T, rest, hrow⟩ := Row.rowT hs
  have hbb : (xs.length + ys.length) * i.bytes ≤ 4194304 * 32 := Nat.mul_le_mul hb hib
  refine rApp E.ht hi E.hz his hu hrow hx hys (by omega) (by omega) ?_
  intro w' v' rest' bl' T' h' _ fr hbl _ hne
  exact hK w' v' bl' h'.row fr hbl hne

end

/- bytes -/
/-! ### Rows of m cells an element -/

theorem flat_len {m : Nat} : ∀ {xs : List (List Value)}, (∀ x ∈ xs, x.length = m) → xs.flatten.length = xs.length * m
  | [], _ => by simp
  | x :: xs, h => by
    rw [List.flatten_cons, List.length_append, h x (by simp), flat_len (fun y hy => h y (by simp [hy])), List.length_cons, Nat.succ_mul]; omega

theorem flat_get {m : Nat} : ∀ {xs : List (List Value)} (rest : List Value), (∀ x ∈ xs, x.length = m) → ∀ {i : Nat} {x : List Value}, xs[i]? = some x → ((xs.flatten ++ rest).drop (i * m)).take m = x
  | [], _, _, i, x, hi => by simp at hi
  | y :: xs, rest, h, 0, x, hi => by
    simp at hi; subst hi
    have := h y (by simp)
    simp [← this]
  | y :: xs, rest, h, i + 1, x, hi => by
    have hy := h y (by simp)
    have := flat_get rest (fun z (hz : z ∈ xs) => h z (List.mem_cons_of_mem _ hz)) (i := i) (x := x) (by simpa using hi)
    rw [List.flatten_cons, List.append_assoc, Nat.succ_mul, Nat.add_comm, ← List.drop_drop]
    have e : (y ++ (xs.flatten ++ rest)).drop m = xs.flatten ++ rest := by rw [← hy]; simp
    rw [e]; exact this

theorem flat_cell {m : Nat} {xs : List (List Value)} (rest : List Value) (h : ∀ x ∈ xs, x.length = m) {i j : Nat} {x : List Value} {v : Value} (hi : xs[i]? = some x) (hj : x[j]? = some v) : (xs.flatten ++ rest)[i * m + j]? = some v := by
  have e := flat_get rest h hi
  have hx := h x (List.mem_of_getElem? hi)
  have hjm : j < m := by rw [← hx]; exact (List.getElem?_eq_some_iff.1 hj).1
  rw [← e, List.getElem?_take, if_pos hjm, List.getElem?_drop] at hj
  exact hj

def RowM (m : Nat) (w : World) (v : Value) (xs : List (List Value)) (bl : Option Nat) : Prop :=
  (∀ x ∈ xs, x.length = m) ∧ match bl with
  | none => v = .slice none 0 0 ∧ xs = []
  | some l => ∃ (r : Nat) (rest : List Value), rest.length = r * m ∧ v = sv l xs.length (xs.length + r) ∧ Cs w l (xs.flatten ++ rest)

theorem RowM.fr {m : Nat} {w w' : World} {v : Value} {xs : List (List Value)} {bl : Option Nat} {F : Nat → Prop} (h : RowM m w v xs bl) (hf : Fr F w w') (hF : ∀ k, bl = some k → ¬ F k) : RowM m w' v xs bl := by
  refine ⟨h.1, ?_⟩
  cases bl with
  | none => exact h.2
  | some l => obtain ⟨r, rest, h1, h2, h3⟩ := h.2; exact ⟨r, rest, h1, h2, h3.fr hf (hF l rfl)⟩
theorem RowM.more {m : Nat} {w w' : World} {v : Value} {xs : List (List Value)} {bl : Option Nat} (h : RowM m w v xs bl) (hf : Fr (fun _ => False) w w') : RowM m w' v xs bl := h.fr hf fun _ _ => id
theorem RowM.lt {m : Nat} {w : World} {v : Value} {xs : List (List Value)} {bl : Option Nat} (h : RowM m w v xs bl) : ∀ k, bl = some k → k < w.heap.size := by
  rintro k rfl
  obtain ⟨_, _, _, _, h3⟩ := h.2
  exact h3.lt
theorem RowM.shape {m : Nat} {w : World} {v : Value} {xs : List (List Value)} {bl : Option Nat} (h : RowM m w v xs bl) : ∃ a c, v = .slice a xs.length c := by
  cases bl with
  | none => obtain ⟨_, rfl, rfl⟩ := h; exact ⟨none, 0, rfl⟩
  | some l => obtain ⟨r, rest, h1, h2, h3⟩ := h.2; exact ⟨_, _, h2⟩
theorem RowM.lenE {m es : Nat} {w : World} {v : Value} {xs : List (List Value)} {bl : Option Nat} (h : RowM m w v xs bl) {K : Value → Prop} (k : K (it xs.length)) : vLen (.slice es) v K := by
  obtain ⟨a, c, rfl⟩ := h.shape
  exact k
/-- an element's place, and its block -/
theorem RowM.at {m : Nat} {w : World} {v : Value} {xs : List (List Value)} {bl : Option Nat} (h : RowM m w v xs bl) {i : Nat} {x : List Value} (hi : xs[i]? = some x) {kd : IntKind} {K : Value → Prop}
    (k : ∀ l cs, bl = some l → Cs w l cs → ((cs.drop (i * m)).take m = x) → i * m + m ≤ cs.length → (∀ j v, x[j]? = some v → cs[i * m + j]? = some v) → K (pt l (i * m))) : vIA (.slice m) v (.int kd i) K := by
  have hlt := (List.getElem?_eq_some_iff.1 hi).1
  cases bl with
  | none => obtain ⟨_, rfl, rfl⟩ := h; simp at hlt
  | some l =>
    obtain ⟨r, rest, h1, rfl, h3⟩ := h.2
    refine rIA hlt (k l _ rfl h3 (flat_get rest h.1 hi) ?_ (fun j v hj => flat_cell rest h.1 hi hj))
    rw [List.length_append, flat_len h.1]
    have : (i + 1) * m ≤ xs.length * m := Nat.mul_le_mul_right _ hlt
    rw [Nat.succ_mul] at this
    omega

/-- t: slices of e, m cells an element -/
structure EN (P : Program) (t e : TypeId) (m : Nat) (z : List Value) : Prop where
  ht : P.underlying t = some (.slice e)
  hi : ∃ i, P.info? e = some i ∧ i.size = m ∧ i.bytes ≤ 64
  hz : zc P e = some z.toArray
  hm : z.length = m
  hu : srcK P t = true

theorem infoOf64 {P : Program} {e n : Nat} (h : (P.info? e).map (fun i => (i.size, Nat.ble i.bytes 64)) = some (n, true)) : ∃ i, P.info? e = some i ∧ i.size = n ∧ i.bytes ≤ 64 := by
  obtain ⟨i, h1, h2⟩ := Option.map_eq_some_iff.1 h
  simp only [Prod.mk.injEq] at h2
  exact ⟨i, h1, h2.1, Nat.le_of_ble_eq_true h2.2⟩

theorem repZ_len {z : List Value} {m n : Nat} (h : z.length = m) : (repZ z n).length = n * m := by
  unfold repZ
  have := flat_len (m := m) (xs := List.replicate n z) (by intro x hx; rw [(List.mem_replicate.1 hx).2, h])
  rw [this, List.length_replicate]

section
variable {P : Program} {t e : TypeId} {m : Nat} {z : List Value} (E : EN P t e m z) {w : World} {K : Value → World → Prop}
include E

theorem EN.build1 {x : Value} {y : List Value} (hx : x.cells.toList = y) (hy : y.length = m) (hm : m ≤ 1000) (hK : ∀ w', Cs w' w.heap.size y → Fr (fun _ => False) w w' → w'.heap.size = w.heap.size + 1 → K (sv w.heap.size 1 1) w') : vBuildSlice P t 1 [(0, x)] w K := by
  obtain ⟨i, hi1, hi2, hi3⟩ := E.hi
  unfold vBuildSlice
  simp only [E.ht, E.hz, hi1, hi2]
  refine ⟨by omega, by simp [E.hm], ?_⟩
  simp only [fillV, slPlace, Nat.blt, Nat.ble, cond_true]
  refine ⟨by rw [← Array.length_toList, hx, hy], ?_⟩
  have e1 : spl (repZ z.toArray.toList 1) (0 * m) x.cells.toList = y := by
    simp [spl, repZ, hx, hy, E.hm]
  rw [e1]
  exact hK _ (Cs.new _ y e) ((Fr.refl _ w).alloc _) (by simp)

theorem EN.app {s : Value} {xs : List (List Value)} {y : List Value} {q : Nat} {bl : Option Nat} (hs : RowM m w s xs bl) (hq : Cs w q y) (hy : y.length = m) (hy1 : ∀ v ∈ y, v.oneCell' = true) (hb : xs.length + 1 ≤ 4194304)
    (hK : ∀ w' v' bl', RowM m w' v' (xs ++ [y]) bl' → Fr (fun k => bl = some k) w w' → (∀ k, bl' = some k → bl = some k ∨ w.heap.size ≤ k) → bl' ≠ none → K v' w') : vAppend P t t s (sv q 1 1) w K := by
  obtain ⟨i, hi, his, hib⟩ := E.hi
  have hsrc := (src_slice (len := m) (off := 0) (c := m) hq (by omega)).2
  have ey : (y.drop 0).take m = y := by rw [List.drop_zero, List.take_of_length_le (by omega)]
  rw [ey] at hsrc
  have hld : ∀ (K : List Value → Prop), K y → ldN w ⟨q, 0, none⟩ (1 * m) K := fun K k => by
    rw [Nat.one_mul]
    obtain ⟨T, hT⟩ := hq
    refine ⟨y, hy, fun j v hj => ?_, k⟩
    rw [addr_add]
    simp only [World.cell?, hT]
    simpa using hj
  have grow : ∀ (c : Nat), xs.length + 1 ≤ c → (∀ k, bl = some k → k < w.heap.size) → K (.slice (some ⟨w.heap.size, 0, none⟩) (xs.length + 1) c) (w.drew.alloc (.cells (xs.flatten ++ y ++ repZ z (c - (xs.length + 1))).toArray e)) := by
    intro c hc hlt
    refine hK _ _ (some w.heap.size) ⟨?_, c - (xs.length + 1), repZ z (c - (xs.length + 1)), repZ_len E.hm, ?_, ?_⟩ ((Fr.refl _ w).drew.alloc _) ?_ (by simp)
    · intro x hx
      rcases List.mem_append.1 hx with h | h
      · exact hs.1 x h
      · rw [List.mem_singleton.1 h, hy]
    · have : xs.length + 1 + (c - (xs.length + 1)) = c := by omega
      rw [List.length_append, List.length_singleton, this]
    · have : (xs ++ [y]).flatten = xs.flatten ++ y := by simp
      rw [this]
      exact ⟨e, World.alloc_heap_new w.drew _⟩
    · intro k hk; cases hk; exact .inr (Nat.le_refl _)
  have hbytes : (xs.length + 1) * i.bytes ≤ 140737488355328 := Nat.le_trans (Nat.mul_le_mul hb hib) (by omega)
  unfold vAppend
  cases bl with
  | none =>
    obtain ⟨_, rfl, rfl⟩ := hs
    simp only [E.ht, hi, E.hz, E.hu, his]
    refine ⟨by simp [E.hm], hld _ ⟨fun h => absurd h (by simp [lenV]), fun _ => ⟨by simpa [lenV] using hbytes, by simp [lenV], rfl, fun c hc => ?_⟩⟩⟩
    have := grow c (by simpa [lenV] using hc) (by simp)
    simpa [lenV] using this
  | some l =>
    obtain ⟨hlen, r, rest, h1, rfl, ⟨T, hl⟩⟩ := hs
    have hfl := flat_len hlen
    simp only [E.ht, hi, E.hz, E.hu, his]
    refine ⟨by simp [E.hm], hld _ ⟨fun h => ?_, fun _ => ⟨hbytes, by simp only [lenV]; omega, ?_⟩⟩⟩
    · have h : 1 ≤ r := by simp only [lenV] at h; omega
      have hr : m ≤ rest.length := by rw [h1]; exact Nat.le_mul_of_pos_left _ h
      simp only [stMaybe, addr_add, Nat.zero_add]
      unfold stN
      simp only [hl]
      refine ⟨trivial, ?_, by simp, hy1, ?_⟩
      · simp only [List.size_toArray, List.length_append]; omega
      have esp : spl (xs.flatten ++ rest) (xs.length * m) y = (xs ++ [y]).flatten ++ rest.drop m := by
        rw [← hfl]
        simp [spl, List.drop_append, hy]
      rw [esp]
      refine hK _ _ (some l) ⟨?_, r - 1, rest.drop m, ?_, ?_, ⟨T, World.putObj_heap_same (lt_of_blk hl)⟩⟩ ((Fr.refl _ w).put _ fun _ => rfl) (fun k hk => .inl hk) (by simp)
      · intro x hx
        rcases List.mem_append.1 hx with h | h
        · exact hlen x h
        · rw [List.mem_singleton.1 h, hy]
      · rw [List.length_drop, h1, Nat.sub_mul, Nat.one_mul]
      · show Value.slice _ (xs.length + lenV _) (xs.length + r) = _
        have : (xs ++ [y]).length + (r - 1) = xs.length + r := by simp; omega
        rw [this]; simp [lenV]
    · show ldN w ⟨l, 0, none⟩ (xs.length * m) _
      refine ⟨xs.flatten, hfl, fun j v hj => ?_, fun c hc => ?_⟩
      · rw [addr_add]
        simp only [World.cell?, hl]
        have := (List.getElem?_eq_some_iff.1 hj).1
        simp only [Nat.zero_add, List.getElem?_toArray]
        rw [List.getElem?_append_left this]; exact hj
      · exact grow c hc (fun k hk => by cases hk; exact lt_of_blk hl)
end

end Go.V
