/-
  Pages, part 4: strings.Join; the builder. Own work.
-/
import Derived.Test.YtmaecpbkbkncgaaDoorP3
set_option linter.unusedVariables false
set_option linter.unusedSimpArgs false
set_option maxRecDepth 100000
namespace Go.Proofs.YtmaecpbkbkncgaaDoor
open Go Go.V Go.RowKit

abbrev str (l : List UInt8) : Value := .string ⟨l.toArray⟩

theorem ret_of_calls {f : FuncId} {args : Array Value} {w : World} {K : Value → World → Prop} (hE : Enters Tryd.prog f) (h : Calls Tryd.prog f args w fun e w' => ∃ v, e = .returned v ∧ K v w') : Ret Tryd.prog f args w K :=
  ⟨hE, callsIn_wide.2 h⟩

theorem fr_of_below {w w' : World} (h : Below w.heap.size w w') : Fr (fun _ => False) w w' := ⟨h.os, h.tape, h.output, h.size, fun k hk _ => h.block k hk⟩
theorem below_of_fr {w w' : World} (h : Fr (fun _ => False) w w') : Below w.heap.size w w' := ⟨h.os, h.tape, h.output, h.size, fun k hk => h.same k hk id⟩

theorem join_nosep (xs : List (List UInt8)) : Lib.join xs [] = xs.flatten := by
  cases xs with
  | nil => rfl
  | cons x r => rw [Lib.join_cons]; simp [Lib.joinTail]

theorem join_spec {w : World} {bk o c : Nat} {xs : List (List UInt8)} {cs : List Value} {K : Value → World → Prop} (h : Cs w bk cs) (hx : ∀ (j : Nat) (x : List UInt8), xs[j]? = some x → cs[o + j]? = some (str x))
    (hc : xs.length ≤ c) (hN : xs.length ≤ 140737488355328) (hl : xs.flatten.length ≤ 140737488355328) (hK : ∀ w', Fr (fun _ => False) w w' → K (str xs.flatten) w') :
    Ret Tryd.prog 23 #[.slice (some ⟨bk, o, none⟩) xs.length c, str []] w K := by
  have e : (xs.map fun l => (⟨l.toArray⟩ : ByteArray)).map (·.data.toList) = xs := by
    rw [List.map_map]
    exact (List.map_congr_left fun a _ => List.toList_toArray).trans (List.map_id xs)
  have := Tryd.strings_Join bk o c (xs.map fun l => ⟨l.toArray⟩) ⟨#[]⟩ w (fun j x hj => by
    rw [List.getElem?_map] at hj
    obtain ⟨l, h1, rfl⟩ := Option.map_eq_some_iff.1 hj
    exact Cs.cell h (hx j l h1)) h.lt (by simpa using hN) (by simpa using hc) (by
      have e2 : (⟨#[]⟩ : ByteArray).data.toList = [] := rfl
      rw [e2, join_nosep, e]; exact hl)
  have e2 : (⟨#[]⟩ : ByteArray).data.toList = [] := rfl
  rw [e2, join_nosep, e, List.length_map] at this
  exact ret_of_calls Tryd.call23 (this.mono fun e w' ⟨h1, h2⟩ => ⟨_, h1, hK w' (fr_of_below h2)⟩)

theorem join_none {w : World} {a : Option Addr} {c : Nat} {K : Value → World → Prop} (hK : K (str []) w) : Ret Tryd.prog 23 #[.slice a 0 c, str []] w K :=
  ret_of_calls Tryd.call23 ((Tryd.strings_Join_none a c ⟨#[]⟩ w).mono fun e w' ⟨h1, h2⟩ => ⟨_, h1, h2 ▸ hK⟩)

theorem rPNil {w : World} {K : Value → Prop} (k : K (.bool true)) : vPtr .eql (.pointer none) (.pointer none) w K := k
theorem rPNil' {w : World} {b o : Nat} {K : Value → Prop} (k : K (.bool false)) : vPtr .eql (pt b o) (.pointer none) w K := k
theorem rPNeS {w : World} {b o : Nat} {K : Value → Prop} (k : K (.bool false)) : vPtr .neq (pt b o) (pt b o) w K := by
  refine ⟨fun _ => ?_, fun h => absurd rfl h⟩
  show K _
  simpa using k

/-- a store that keeps the block's type -/
theorem rSt70 {w : World} {T : TypeId} {b o : Nat} {cs : Array Value} {v : Value} {K : World → Prop} (h : w.heap[b]? = some (.cells cs T (0, 0))) (ho : o < cs.size) (hv : v.oneCell' = true) (hna : ∀ c, v ≠ .agg c)
    (k : ∀ w', w'.heap[b]? = some (.cells (cs.setIfInBounds o v) T (0, 0)) → Fr (fun k => k = b) w w' → w'.heap.size = w.heap.size → K w') : vSt (some 1) (pt b o) v w K := by
  have : st1 w ⟨b, o, none⟩ v K := by
    unfold st1
    simp only [h]
    exact ⟨trivial, ho, by simp, hv, k _ (World.putObj_heap_same (lt_of_blk h)) ((Fr.refl _ w).put _ fun _ => rfl) (by simp)⟩
  unfold vSt
  split
  · rename_i heq _
    cases heq
    rename_i heq
    cases heq
    split
    · exact absurd rfl (hna _)
    · exact ⟨rfl, this⟩
  · rename_i hx; exact absurd rfl (hx _ _ rfl)

/-! ### append, rows of one cell an element -/

/-- a slice of one-cell elements of a block of type T; what lies behind them -/
def RowT (T : TypeId) (w : World) (v : Value) (xs rest : List Value) (bl : Option Nat) : Prop :=
  match bl with
  | none => v = .slice none 0 0 ∧ xs = [] ∧ rest = []
  | some l => v = sv l xs.length (xs.length + rest.length) ∧ w.heap[l]? = some (.cells (xs ++ rest).toArray T (0, 0))

/-- the elements of a slice or a string -/
def Src (w : World) (x : Value) (xs : List Value) : Prop := lenV x = xs.length ∧ ∀ K : List Value → Prop, K xs → srcV 1 xs.length x w K

theorem src_slice {w : World} {q off len c : Nat} {cs : List Value} (h : Cs w q cs) (hl : off + len ≤ cs.length) : Src w (.slice (some ⟨q, off, none⟩) len c) ((cs.drop off).take len) := by
  have hlen : ((cs.drop off).take len).length = len := by simp; omega
  refine ⟨hlen.symm, fun K k => ⟨_, by simp, ?_, k⟩⟩
  intro j v hj
  rw [addr_add]
  obtain ⟨T, h⟩ := h
  simp only [World.cell?, h]
  rw [List.getElem?_take] at hj
  split at hj
  · simpa using hj
  · cases hj

theorem src_nil {w : World} {c : Nat} : Src w (.slice none 0 c) [] := ⟨rfl, fun K k => ⟨rfl, k⟩⟩

theorem src_str {w : World} (l : List UInt8) : Src w (str l) (l.map fun b => .int .u8 b.toNat) := by
  have : (str l : Value) = .string ⟨l.toArray⟩ := rfl
  refine ⟨by simp [lenV, ByteArray.size], fun K k => ?_⟩
  simp only [srcV, List.length_map]
  refine ⟨trivial, ?_⟩
  rw [List.take_of_length_le (by simp)]
  exact k

theorem rApp {P : Program} {t u e : TypeId} {i : TypeInfo} {z : Value} (ht : P.underlying t = some (.slice e)) (hi : P.info? e = some i) (hz : zc P e = some #[z]) (h1 : i.size = 1) (hu : srcK P u = true)
    {T : TypeId} {w : World} {s x : Value} {xs rest ys : List Value} {bl : Option Nat} {K : Value → World → Prop}
    (hs : RowT T w s xs rest bl) (hx : Src w x ys) (hys : ∀ y ∈ ys, y.oneCell' = true) (hb1 : (xs.length + ys.length) * i.bytes ≤ 140737488355328) (hb2 : xs.length + ys.length ≤ 140737488355328)
    (hK : ∀ w' v' rest' bl' T', RowT T' w' v' (xs ++ ys) rest' bl' → (T' = T ∨ T' = e) → Fr (fun k => bl = some k) w w' → (∀ k, bl' = some k → bl = some k ∨ w.heap.size ≤ k) → (ys ≠ [] → bl' ≠ none) → (bl ≠ none → bl' ≠ none) → K v' w') :
    vAppend P t u s x w K := by
  have key : ∀ (base : Option Addr) (n cap : Nat), s = .slice base n cap → n = xs.length →
      (n + ys.length ≤ cap → stMaybe w base (n * 1) ys (K (.slice base (n + ys.length) cap))) →
      (cap < n + ys.length → srcV 1 n s w fun olds => ∀ c, n + ys.length ≤ c → K (.slice (some ⟨w.heap.size, 0, none⟩) (n + ys.length) c) (w.drew.alloc (.cells (olds ++ ys ++ repZ [z] (c - (n + ys.length))).toArray e))) →
      vAppend P t u s x w K := by
    intro base n cap es hn ha hb
    subst es
    unfold vAppend
    simp only [ht, hi, hz, hu, h1, hx.1]
    refine ⟨by simp, hx.2 _ ⟨ha, fun hc => ⟨by rw [hn]; exact hb1, by omega, ?_⟩⟩⟩
    exact hb hc
  have grow : ∀ (c : Nat), xs.length + ys.length ≤ c → (∀ k, bl = some k → k < w.heap.size) → K (.slice (some ⟨w.heap.size, 0, none⟩) (xs.length + ys.length) c) (w.drew.alloc (.cells (xs ++ ys ++ repZ [z] (c - (xs.length + ys.length))).toArray e)) := by
    intro c hc hlt
    have hrl : (repZ [z] (c - (xs.length + ys.length))).length = c - (xs.length + ys.length) := by simp [repZ]
    refine hK _ _ (repZ [z] (c - (xs.length + ys.length))) (some w.heap.size) e ⟨?_, World.alloc_heap_new w.drew _⟩ (.inr rfl) ((Fr.refl _ w).drew.alloc _) ?_ (by simp) (by simp)
    · rw [hrl, List.length_append]
      have : xs.length + ys.length + (c - (xs.length + ys.length)) = c := by omega
      rw [this]
    · intro k hk; cases hk; exact .inr (Nat.le_refl _)
  cases bl with
  | none =>
    obtain ⟨rfl, rfl, rfl⟩ := hs
    refine key none 0 0 rfl rfl (fun h => ?_) (fun h => ?_)
    · have hy : ys = [] := List.length_eq_zero_iff.1 (by omega)
      subst hy
      exact hK w _ [] none T ⟨rfl, rfl, rfl⟩ (.inl rfl) (Fr.refl _ _) (by simp) (by simp) (by simp)
    · refine ⟨rfl, fun c hc => ?_⟩
      have := grow c (by simpa using hc) (by simp)
      simpa using this
  | some l =>
    obtain ⟨rfl, hl⟩ := hs
    refine key _ _ _ rfl rfl (fun h => ?_) (fun h => ?_)
    · simp only [stMaybe, addr_add, Nat.zero_add, Nat.mul_one]
      unfold stN
      simp only [hl]
      refine ⟨trivial, by simp; omega, by simp, hys, ?_⟩
      have esp : spl (xs ++ rest) xs.length ys = xs ++ ys ++ rest.drop ys.length := by
        simp [spl, List.drop_append, List.append_assoc]
      rw [esp]
      refine hK _ _ (rest.drop ys.length) (some l) T ⟨?_, World.putObj_heap_same (lt_of_blk hl)⟩ (.inl rfl) ((Fr.refl _ w).put _ fun _ => rfl) (fun k hk => .inl hk) (by simp) (by simp)
      have : xs.length + rest.length = (xs ++ ys).length + (rest.drop ys.length).length := by simp; omega
      rw [← this, List.length_append]
    · have hsrc := (src_slice (c := xs.length + rest.length) (len := xs.length) (off := 0) ⟨T, hl⟩ (by simp)).2
      have e0 : ((xs ++ rest).drop 0).take xs.length = xs := by simp
      rw [e0] at hsrc
      exact hsrc _ fun c hc => grow c hc (fun k hk => by cases hk; exact lt_of_blk hl)

/-! ### The builder -/

def bts (l : List UInt8) : List Value := l.map fun b => .int .u8 b.toNat

theorem bts_len (l : List UInt8) : (bts l).length = l.length := by simp [bts]
theorem bts_app (l m : List UInt8) : bts (l ++ m) = bts l ++ bts m := by simp [bts]
theorem bts_one (l : List UInt8) : ∀ x ∈ bts l, x.oneCell' = true := by
  intro x hx
  obtain ⟨j, _, rfl⟩ := List.mem_map.1 hx
  rfl

/-- a builder in a block of its own; its bytes; its buffer's block -/
structure Bld (w : World) (b : Nat) (bs : List UInt8) (l : Option Nat) : Prop where
  ne : ∀ k, l = some k → k ≠ b
  hd : ∃ p v rest, (p = .pointer none ∨ p = pt b 0) ∧ w.heap[b]? = some (.cells #[p, v] 81 (0, 0)) ∧ RowT 5 w v (bts bs) rest l ∧ (l ≠ none → bs ≠ [])

theorem RowT.fr {T : TypeId} {w w' : World} {v : Value} {xs rest : List Value} {bl : Option Nat} {F : Nat → Prop} (h : RowT T w v xs rest bl) (hf : Fr F w w') (hF : ∀ k, bl = some k → ¬ F k) : RowT T w' v xs rest bl := by
  cases bl with
  | none => exact h
  | some l => exact ⟨h.1, hf.get h.2 (hF l rfl)⟩

theorem RowT.row {T : TypeId} {w : World} {v : Value} {xs rest : List Value} {bl : Option Nat} (h : RowT T w v xs rest bl) : Row w v xs bl := by
  cases bl with
  | none => exact ⟨h.1, h.2.1⟩
  | some l => exact ⟨rest, h.1, T, h.2⟩

theorem Row.rowT {w : World} {v : Value} {xs : List Value} {bl : Option Nat} (h : Row w v xs bl) : ∃ T rest, RowT T w v xs rest bl := by
  cases bl with
  | none => exact ⟨0, [], h.1, h.2, rfl⟩
  | some l => obtain ⟨rest, h1, T, h2⟩ := h; exact ⟨T, rest, h1, h2⟩

theorem Bld.fr {w w' : World} {b : Nat} {bs : List UInt8} {l : Option Nat} {F : Nat → Prop} (h : Bld w b bs l) (hf : Fr F w w') (hb : ¬ F b) (hl : ∀ k, l = some k → ¬ F k) : Bld w' b bs l := by
  obtain ⟨hne, p, v, rest, hp, hd, hm, hz⟩ := h
  exact ⟨hne, p, v, rest, hp, hf.get hd hb, hm.fr hf hl, hz⟩

theorem Bld.lt {w : World} {b : Nat} {bs : List UInt8} {l : Option Nat} (h : Bld w b bs l) : ∀ k, l = some k → k < w.heap.size := by
  obtain ⟨hne, p, v, rest, hp, hd, hm, hz⟩ := h
  rintro k rfl
  exact lt_of_blk hm.2

theorem noEscape_spec {v : Value} {w : World} {K : Value → World → Prop} (hK : K v w) : CallK Tryd.prog 56 #[v] w K :=
  .inr ⟨v, w, by rw [run_callFunc_extern Tryd.func56 (by kernel_rfl) (by kernel_rfl) (by kernel_rfl) (e := Extern.AbiNoEscape.same) (by kernel_rfl)]; rfl, hK⟩

theorem lies70 : liesAt Tryd.prog Tryd.prog.depth 81 (2 / Tryd.prog.cellsOf 81) 0 81 1 = true := by kernel_rfl

theorem copyCheck_spec {w : World} {b : Nat} {p v : Value} {K : Value → World → Prop} (hp : p = .pointer none ∨ p = pt b 0) (h : w.heap[b]? = some (.cells #[p, v] 81 (0, 0)))
    (hK : ∀ w', w'.heap[b]? = some (.cells #[pt b 0, v] 81 (0, 0)) → Fr (fun k => k = b) w w' → w'.heap.size = w.heap.size → K (.tuple #[]) w') : Ret Tryd.prog 48 #[pt b 0] w K := by
  apply F48_ok
  unfold F48
  have hc : Cs w b [p, v] := ⟨81, h⟩
  refine rNil <| rFA0 <| rLd hc rfl ?_
  rcases hp with rfl | rfl
  · refine rPNil <| rIfT ?_
    have hU : ∀ K, K (pt b 0) → vToU (pt b 0) w K := fun K k => by
      unfold vToU
      simp only [h]
      exact ⟨by simp, k⟩
    have hF : ∀ K, K (pt b 0) → vFromU Tryd.prog 81 (pt b 0) w K := fun K k => by
      unfold vFromU
      simp only [h]
      exact ⟨lies70, k⟩
    refine hU _ <| noEscape_spec <| hF _ <| rNil <| rFA0 <| rSt70 h (by simp) rfl (by simp) ?_
    intro w' h1 h2 h3
    exact hK w' h1 h2 h3
  · refine rPNil' <| rIfF ?_
    refine rNil <| rFA0 <| rLd hc rfl <| rPNeS <| rIfF ?_
    exact hK w h (Fr.refl _ w) rfl

theorem t38 : Tryd.prog.underlying 42 = some (.slice 5) := by kernel_rfl
theorem k38 : srcK Tryd.prog 42 = true := by kernel_rfl
theorem k9 : srcK Tryd.prog 9 = true := by kernel_rfl
theorem i5 : ∃ i, Tryd.prog.info? 5 = some i ∧ i.size = 1 ∧ i.bytes = 1 := by
  have h : (Tryd.prog.info? 5).map (fun i => (i.size, i.bytes)) = some (1, 1) := by kernel_rfl
  cases hi : Tryd.prog.info? 5 with
  | none => rw [hi] at h; cases h
  | some i => rw [hi] at h; simp at h; exact ⟨i, rfl, h.1, h.2⟩
theorem z5 : zc Tryd.prog 5 = some #[.int .u8 0] := by kernel_rfl

theorem write_spec {w : World} {b q off len c : Nat} {bs ds : List UInt8} {l : Option Nat} {cs : List Value} {K : Value → World → Prop} (h : Bld w b bs l) (hc : Cs w q cs) (hl : off + len ≤ cs.length) (hqb : q ≠ b)
    (hds : (cs.drop off).take len = bts ds) (h0 : 0 < len) (hlen : bs.length + len ≤ 140737488355328)
    (hK : ∀ v w' l', Bld w' b (bs ++ ds) l' → Fr (fun k => k = b ∨ l = some k) w w' → (∀ k, l' = some k → l = some k ∨ w.heap.size ≤ k) → K v w') :
    Ret Tryd.prog 30 #[pt b 0, .slice (some ⟨q, off, none⟩) len c] w K := by
  obtain ⟨hne, p, v, rest, hp, hd, hm, hz⟩ := h
  obtain ⟨i, hi, his, hib⟩ := i5
  apply F30_ok
  unfold F30
  refine (copyCheck_spec hp hd ?_).call
  intro w1 hb1 fr1 hs1
  have hc1 := hc.fr fr1 hqb
  have hm1 := hm.fr fr1 hne
  refine rNil <| rFA0 <| rLd ⟨81, hb1⟩ rfl ?_
  have hsrc := src_slice (c := c) hc1 hl
  rw [hds] at hsrc
  have hdl : ds.length = len := by
    have := congrArg List.length hds
    rw [bts_len] at this
    simp at this; omega
  refine rApp t38 hi z5 his k38 hm1 hsrc (bts_one ds) (by rw [bts_len, bts_len, hib]; omega) (by rw [bts_len, bts_len]; omega) ?_
  intro w2 v2 rest2 l2 T2 hrow hT fr2 hl2 _ _
  have hT5 : T2 = 5 := hT.elim id id
  subst hT5
  rw [← bts_app] at hrow
  have hb2 := fr2.get hb1 (fun e => hne b e rfl)
  refine rNil <| rFA0 <| rSt70 hb2 (by simp) ?_ ?_ ?_
  · cases l2 with
    | none => obtain ⟨rfl, _⟩ := hrow; rfl
    | some l => obtain ⟨rfl, _⟩ := hrow; rfl
  · intro cs e
    cases l2 with
    | none => obtain ⟨rfl, _⟩ := hrow; cases e
    | some l => obtain ⟨rfl, _⟩ := hrow; cases e
  intro w3 hb3 fr3 hs3
  have hne2 : ∀ k, l2 = some k → k ≠ b := fun k hk e => by
    rcases hl2 k hk with h | h
    · exact hne k h e
    · subst e; have := lt_of_blk hb1; omega
  refine hK _ w3 l2 ⟨hne2, pt b 0, v2, rest2, .inr rfl, hb3, hrow.fr fr3 hne2, ?_⟩ ?_ ?_
  · intro _ e
    rw [List.append_eq_nil_iff] at e
    rw [e.2] at hdl
    simp at hdl; omega
  · exact ((fr1.mono fun _ _ => .inl).trans (fr2.mono (G := fun k => k = b ∨ l = some k) fun _ _ => .inr) fun _ _ => id).trans (fr3.mono (G := fun k => k = b ∨ l = some k) fun _ _ => .inl) fun _ _ => id
  · intro k hk
    rcases hl2 k hk with h | h
    · exact .inl h
    · exact .inr (by omega)

theorem t90 : Tryd.prog.underlying 108 = some (.pointer 5) := by kernel_rfl
theorem s5 : szOf Tryd.prog 5 = some 1 := by kernel_rfl

theorem rLdS' {S : World → Prop} {b o : Nat} {K : Value → Prop} {cs : Array Value} {T : TypeId} (v : Value) (h : ∀ w, S w → w.heap[b]? = some (.cells cs T (0, 0))) (hv : cs[o]? = some v) (k : K v) : vLdS S .one (pt b o) K :=
  rLdS v (fun w hw => ⟨cs.toList, ⟨T, h w hw⟩, by simpa using hv⟩) k

theorem string_spec {w : World} {b : Nat} {bs : List UInt8} {l : Option Nat} {K : Value → World → Prop} (h : Bld w b bs l) (hlen : bs.length ≤ 140737488355328)
    (hK : ∀ w', Fr (fun k => l = some k) w w' → K (str bs) w') : Ret Tryd.prog 31 #[pt b 0] w K := by
  obtain ⟨hne, p, v, rest, hp, hd, hm, hz⟩ := h
  apply F31_ok
  unfold F31
  refine ⟨fun w' => w'.heap[b]? = some (.cells #[p, v] 81 (0, 0)), hd, ?_⟩
  refine rNil <| rFA0 <| rLdS' (o := 1) v (fun _ h => h) rfl ?_
  cases l with
  | none =>
    obtain ⟨rfl, hb, rfl⟩ := hm
    have hb : bs = [] := by
      cases bs with
      | nil => rfl
      | cons a r => simp [bts] at hb
    subst hb
    refine rUSDn <| rNil <| rFA0 <| rLdS' (o := 1) _ (fun _ h => h) rfl <| rLenS ?_
    refine ⟨?_, trivial⟩
    unfold vUStr
    simp only [t90]
    exact ⟨s5, fun _ => ⟨hd, hK _ (Fr.refl _ w).drew⟩, fun h => absurd rfl h⟩
  | some l =>
    obtain ⟨rfl, hl⟩ := hm
    have hb := hz (by simp)
    have hpos : 0 < bs.length := List.length_pos_iff.2 hb
    refine rUSDs (by rw [bts_len]; omega) <| rNil <| rFA0 <| rLdS' (o := 1) _ (fun _ h => h) rfl <| rLenS ?_
    refine ⟨?_, trivial⟩
    unfold vUStr
    simp only [t90]
    refine ⟨s5, fun h => ?_, fun _ => ⟨bs, by rw [bts_len], trivial, hlen, ?_⟩⟩
    · rw [bts_len] at h; omega
    · have hl' : w.drew.heap[l]? = some (.cells (bts bs ++ rest).toArray 5 (0, 0)) := hl
      simp only [hl']
      refine ⟨trivial, by simp [bts_len], ?_, ?_, ?_⟩
      · intro j x hj
        have : (bts bs)[j]? = some (.int .u8 x.toNat) := by simp [bts, hj]
        rw [List.getElem?_toArray, List.getElem?_append_left (by rw [bts_len]; exact (List.getElem?_eq_some_iff.1 hj).1)]
        exact this
      · rw [World.putObj_heap_other (Ne.symm (hne l rfl))]; exact hd
      · exact hK _ ((Fr.refl _ w).drew.put _ fun _ => rfl)

end Go.Proofs.YtmaecpbkbkncgaaDoor
