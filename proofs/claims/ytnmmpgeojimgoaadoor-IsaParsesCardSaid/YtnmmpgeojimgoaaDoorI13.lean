/-
  Isa, part 13: a program is built. Own work.
-/
import Derived.Test.YtnmmpgeojimgoaaDoorI12
set_option linter.unusedVariables false
set_option linter.unusedSimpArgs false
set_option maxRecDepth 100000
namespace Go.Proofs.YtnmmpgeojimgoaaDoor
open Go Go.V Go.RowKit

/-- the first line whose name stands nowhere -/
def firstBad (pl : List (List UInt8 × Nat)) : List Ln → Option Nat
  | [] => none
  | x :: r => if x.name ≠ [] ∧ find x.name pl = none then some x.no else firstBad pl r

def fixN (pl : List (List UInt8 × Nat)) (i : Nat) (x : Ln) : Cd := if x.name = [] then x.code else { x.code with n := ((find x.name pl).getD 0 : Nat) - (i : Int) - 1 }
def encB (x : Cd) : List UInt8 := if rightB x = true then enc x else []
def outBytes (pl : List (List UInt8 × Nat)) : Nat → List Ln → List UInt8
  | _, [] => []
  | i, x :: r => encB (fixN pl i x) ++ outBytes pl (i + 1) r

noncomputable def buildB (l : List UInt8) : List UInt8 × Nat × Int :=
  if 1024 < (parts 10 l).countP isIns then ([], 0, 7)
  else match scan 0 (parts 10 l) [] [] with
    | .inl n => ([], n, 2)
    | .inr (out, pl) => match firstBad pl out with
      | some n => ([], n, 4)
      | none => (outBytes pl 0 out, 0, 0)

theorem encB_len (x : Cd) : (encB x).length ≤ 4 := by
  unfold encB
  split
  · simp [enc]
  · simp

theorem outBytes_app (pl : List (List UInt8 × Nat)) (x : Ln) : ∀ (a : List Ln) (i : Nat), outBytes pl i (a ++ [x]) = outBytes pl i a ++ encB (fixN pl (i + a.length) x)
  | [], i => by simp [outBytes]
  | y :: a, i => by
    rw [List.cons_append, outBytes, outBytes_app pl x a (i + 1), outBytes, List.append_assoc, List.length_cons]
    have : i + 1 + a.length = i + (a.length + 1) := by omega
    rw [this]
theorem outBytes_len (pl : List (List UInt8 × Nat)) : ∀ (a : List Ln) (i : Nat), (outBytes pl i a).length ≤ 4 * a.length
  | [], i => by simp [outBytes]
  | y :: a, i => by
    have h1 := encB_len (fixN pl i y)
    have h2 := outBytes_len pl a (i + 1)
    rw [outBytes, List.length_append, List.length_cons]; omega

theorem mapLook1 {b : Nat} {pl : List (List UInt8 × Nat)} {w : World} {nm : List UInt8} {K : Value → Prop} (h : MapS w b (plS pl)) (k1 : ∀ n, find nm pl = some n → K (.tuple #[it n, .bool true])) (k2 : find nm pl = none → K (.tuple #[it 0, .bool false])) :
    vLookup Tryd.prog 68 (.map (some b)) (str nm) true w K := by
  refine h.look u68 u9 z3 (fun v hv => ?_) (fun hv => ?_)
  · rw [mapAt_find] at hv
    obtain ⟨n, h1, rfl⟩ := Option.map_eq_some_iff.1 hv
    exact k1 n h1
  · rw [mapAt_find] at hv
    exact k2 (Option.map_eq_none_iff.1 hv)
theorem mapLook0 {b : Nat} {pl : List (List UInt8 × Nat)} {w : World} {nm : List UInt8} {K : Value → Prop} (h : MapS w b (plS pl)) (k : K (it ((find nm pl).getD 0 : Nat))) : vLookup Tryd.prog 68 (.map (some b)) (str nm) false w K := by
  refine h.look u68 u9 z3 (fun v hv => ?_) (fun hv => ?_)
  · rw [mapAt_find] at hv
    obtain ⟨n, h1, rfl⟩ := Option.map_eq_some_iff.1 hv
    rw [h1] at k
    exact k
  · rw [mapAt_find] at hv
    rw [Option.map_eq_none_iff.1 hv] at k
    exact k

theorem scan_small : ∀ (ps : List (List UInt8)) (i : Nat) (out : List Ln) (pl : List (List UInt8 × Nat)) (out' : List Ln) (pl' : List (List UInt8 × Nat)), scan i ps out pl = .inr (out', pl') → (∀ x ∈ out, rightB x.code = true) → (∀ x ∈ out', rightB x.code = true)
  | [], i, out, pl, out', pl', h, hr => by
    rw [scan_nil] at h
    simp only [Sum.inr.injEq, Prod.mk.injEq] at h
    rw [← h.1]; exact hr
  | s :: r, i, out, pl, out', pl', h, hr => by
    rw [scan_cons] at h
    split at h
    · exact scan_small r _ _ _ _ _ h hr
    split at h
    · split at h
      · cases h
      · exact scan_small r _ _ _ _ _ h hr
    rcases lineOf_cases s with ⟨x, h1, h2⟩ | ⟨_, x, nm, h1, h2⟩ | ⟨_, _, h2⟩
    · rw [h2] at h
      refine scan_small r _ _ _ _ _ h fun y hy => ?_
      rcases List.mem_append.1 hy with hy | hy
      · exact hr y hy
      · rw [List.mem_singleton.1 hy]; exact h1.1
    · rw [h2] at h
      refine scan_small r _ _ _ _ _ h fun y hy => ?_
      rcases List.mem_append.1 hy with hy | hy
      · exact hr y hy
      · rw [List.mem_singleton.1 hy]; exact calls_right h1
    · rw [h2] at h
      cases h

def bldMu (n : Nat) (vs : List Value) : Nat := match vs with
  | [_, _, _, _, .int _ i] => n - i.toNat
  | _ => 0

/-- isa.Build -/
theorem build_spec {w : World} {l : List UInt8} {K : Value → World → Prop} (hT : Tabs w) (hl : l.length < 1000000)
    (hK : ∀ w', Fr (fun _ => False) w w' → K (.tuple #[str (buildB l).1, it (buildB l).2.1, it (buildB l).2.2]) w') : CallK Tryd.prog 19 #[str l] w K := by
  apply Ret.call
  apply F19_ok
  unfold F19
  refine count_spec hT (by omega) (fun w1 f1 => ?_)
  unfold buildB at hK
  refine rGt <| sIfD (fun h => ?_) (fun h => ?_)
  · rw [if_pos (by omega)] at hK
    exact hK w1 f1
  rw [if_neg (by omega)] at hK
  refine lines_spec (hT.fr f1) hl (fun n hn w2 f2 => ?_) (fun out pl hn w2 v bl m f2 hr hm hol hpb => ?_)
  · rw [hn] at hK
    have f := f1.more f2
    have hpos : 0 < n := by
      have key : ∀ (ps : List (List UInt8)) (i : Nat) (out : List Ln) (pl : List (List UInt8 × Nat)) (n : Nat), scan i ps out pl = .inl n → 0 < n := by
        intro ps
        induction ps with
        | nil => intro i out pl n h; rw [scan_nil] at h; cases h
        | cons s r ih =>
          intro i out pl n h
          rw [scan_cons] at h
          split at h
          · exact ih _ _ _ _ h
          split at h
          · split at h
            · simp only [Sum.inl.injEq] at h; omega
            · exact ih _ _ _ _ h
          split at h
          · exact ih _ _ _ _ h
          · simp only [Sum.inl.injEq] at h; omega
      exact key _ _ _ _ _ hn
    repeat (first
      | refine rFA0 ?_
      | refine rExt0 ?_
      | refine rExt1 ?_
      | refine sExt30 ?_
      | refine sExt31 ?_
      | refine sExt2 ?_
      | refine rIfT ?_
      | refine rIfF ?_
      | refine rNot ?_
      | refine rLenB ?_
      | refine sLd hL (i := 0) rfl rfl ?_
      | refine sLd hL (i := 1) rfl rfl ?_
      | refine sLd hL (i := 2) rfl rfl ?_
      | refine sLd hL (i := 3) rfl rfl ?_
      | refine sLd hL (i := 4) rfl rfl ?_
      | refine sLd hL (i := 5) rfl rfl ?_
      | refine sLdN hL (i := 0) rfl rfl ?_
      | refine sLdN hL (i := 1) rfl rfl ?_
      | refine sLdN hL (i := 2) rfl rfl ?_
      | refine sLdN hL (i := 3) rfl rfl ?_
      | refine sLdN hL (i := 4) rfl rfl ?_
      | refine sLdN hL (i := 5) rfl rfl ?_
      | refine sLdS (i := 0) rfl rfl ?_
      | refine sLdS (i := 1) rfl rfl ?_
      | refine sLdS (i := 2) rfl rfl ?_
      | refine sLdS (i := 3) rfl rfl ?_
      | refine sLdS (i := 4) rfl rfl ?_
      | refine sLdS (i := 5) rfl rfl ?_
      | refine rFA ?_)
    refine rGt <| sIfD (fun _ => ?_) (fun h2 => absurd h2 (by omega))
    exact hK w2 f
  simp only [hn] at hK
  have f := f1.more f2
  repeat (first
    | refine rFA0 ?_
    | refine rExt0 ?_
    | refine rExt1 ?_
    | refine sExt30 ?_
    | refine sExt31 ?_
    | refine sExt2 ?_
    | refine rIfT ?_
    | refine rIfF ?_
    | refine rNot ?_
    | refine rLenB ?_
    | refine sLd hL (i := 0) rfl rfl ?_
    | refine sLd hL (i := 1) rfl rfl ?_
    | refine sLd hL (i := 2) rfl rfl ?_
    | refine sLd hL (i := 3) rfl rfl ?_
    | refine sLd hL (i := 4) rfl rfl ?_
    | refine sLd hL (i := 5) rfl rfl ?_
    | refine sLdN hL (i := 0) rfl rfl ?_
    | refine sLdN hL (i := 1) rfl rfl ?_
    | refine sLdN hL (i := 2) rfl rfl ?_
    | refine sLdN hL (i := 3) rfl rfl ?_
    | refine sLdN hL (i := 4) rfl rfl ?_
    | refine sLdN hL (i := 5) rfl rfl ?_
    | refine sLdS (i := 0) rfl rfl ?_
    | refine sLdS (i := 1) rfl rfl ?_
    | refine sLdS (i := 2) rfl rfl ?_
    | refine sLdS (i := 3) rfl rfl ?_
    | refine sLdS (i := 4) rfl rfl ?_
    | refine sLdS (i := 5) rfl rfl ?_
    | refine rFA ?_)
  refine rGt <| rIfF ?_
  refine hr.lenE ?_
  rw [List.length_map]
  refine ⟨fun vs ds W => ds = [] ∧ Fr (fun _ => False) w2 W ∧ ∃ (i : Nat), i ≤ out.length ∧ vs = [v, .map (some m), v, it out.length, it i] ∧ firstBad pl out = firstBad pl (out.drop i), fun vs _ _ => bldMu out.length vs, ⟨rfl, Fr.refl _ _, 0, by omega, rfl, rfl⟩, ?_⟩
  rintro ρ ds W ⟨rfl, fW, i, hi, hρ, hfb⟩
  rw [hρ]
  simp only [List.map_cons, List.map_nil, List.cons.injEq, and_true] at hρ
  obtain ⟨e5, e6, e29, e30, e31⟩ := hρ
  unfold F19L1
  simp only [e5, e6, e29, e30, e31]
  have hrow := hr.more fW
  have hmap := hm.fr fW id
  have hL := Lx.of (F := fun _ => False) fW
  refine rLt <| sIfD (fun hlt => ?_) (fun hge => ?_)
  · obtain ⟨x, hx⟩ : ∃ x, out[i]? = some x := ⟨_, List.getElem?_eq_getElem (by omega)⟩
    have hdrop : out.drop i = x :: out.drop (i + 1) := by
      have hlt : i < out.length := by omega
      rw [List.drop_eq_getElem_cons hlt]
      congr 1
      rw [List.getElem?_eq_getElem hlt] at hx
      exact Option.some.inj hx
    rw [hdrop, firstBad] at hfb
    refine hrow.at (x := x.cells) (by rw [List.getElem?_map, hx]; rfl) (fun q cs hq hc he hle _ => ?_)
    refine rLdN hc hle ?_
    rw [he]
    refine sAlloc zc72 hL (fun w5 b5 hL => ?_)
    refine sStN hL (i := 0) rfl rfl (by simp) (Ln.cells_one x) (fun w6 hL => ?_)
    have hL : Lx (fun _ => False) w2 w6 [.blk b5 x.cells] := by
      have : spl (#[it 0, it 0, it 0, it 0, it 0, it 0, str []] : Array Value).toList 0 x.cells.toArray.toList = x.cells := by simp [spl, Ln.cells]
      rw [← this]; exact hL
    have hmap := hm.fr hL.fr id
    have hnext : ¬ (x.name ≠ [] ∧ find x.name pl = none) → ∀ {W2 : World}, Fr (fun _ => False) w2 W2 → vBin (.int .i64) .add (it i) (it 1) fun v51 => (([] : List Nat) = [] ∧ Fr (fun _ => False) w2 W2 ∧ ∃ (i : Nat), i ≤ out.length ∧ [v, Value.map (some m), v, it out.length, v51] = [v, .map (some m), v, it out.length, it i] ∧ firstBad pl out = firstBad pl (out.drop i)) ∧ bldMu out.length [v, Value.map (some m), v, it out.length, v51] < bldMu out.length [v, .map (some m), v, it out.length, it i] := by
      intro hno W2 f2
      rw [if_neg hno] at hfb
      refine rAdd (by omega) (by omega) ⟨⟨rfl, f2, i + 1, by omega, by simp, hfb⟩, by simp [bldMu]; omega⟩
    repeat (first
      | refine rFA0 ?_
      | refine rExt0 ?_
      | refine rExt1 ?_
      | refine sExt30 ?_
      | refine sExt31 ?_
      | refine sExt2 ?_
      | refine rIfT ?_
      | refine rIfF ?_
      | refine rNot ?_
      | refine rLenB ?_
      | refine sLd hL (i := 0) rfl rfl ?_
      | refine sLd hL (i := 1) rfl rfl ?_
      | refine sLd hL (i := 2) rfl rfl ?_
      | refine sLd hL (i := 3) rfl rfl ?_
      | refine sLd hL (i := 4) rfl rfl ?_
      | refine sLd hL (i := 5) rfl rfl ?_
      | refine sLdN hL (i := 0) rfl rfl ?_
      | refine sLdN hL (i := 1) rfl rfl ?_
      | refine sLdN hL (i := 2) rfl rfl ?_
      | refine sLdN hL (i := 3) rfl rfl ?_
      | refine sLdN hL (i := 4) rfl rfl ?_
      | refine sLdN hL (i := 5) rfl rfl ?_
      | refine sLdS (i := 0) rfl rfl ?_
      | refine sLdS (i := 1) rfl rfl ?_
      | refine sLdS (i := 2) rfl rfl ?_
      | refine sLdS (i := 3) rfl rfl ?_
      | refine sLdS (i := 4) rfl rfl ?_
      | refine sLdS (i := 5) rfl rfl ?_
      | refine rFA ?_)
    refine mapLook1 hmap (fun n hn => ?_) (fun hn => ?_)
    · repeat (first
        | refine rFA0 ?_
        | refine rExt0 ?_
        | refine rExt1 ?_
        | refine sExt30 ?_
        | refine sExt31 ?_
        | refine sExt2 ?_
        | refine rIfT ?_
        | refine rIfF ?_
        | refine rNot ?_
        | refine rLenB ?_
        | refine sLd hL (i := 0) rfl rfl ?_
        | refine sLd hL (i := 1) rfl rfl ?_
        | refine sLd hL (i := 2) rfl rfl ?_
        | refine sLd hL (i := 3) rfl rfl ?_
        | refine sLd hL (i := 4) rfl rfl ?_
        | refine sLd hL (i := 5) rfl rfl ?_
        | refine sLdN hL (i := 0) rfl rfl ?_
        | refine sLdN hL (i := 1) rfl rfl ?_
        | refine sLdN hL (i := 2) rfl rfl ?_
        | refine sLdN hL (i := 3) rfl rfl ?_
        | refine sLdN hL (i := 4) rfl rfl ?_
        | refine sLdN hL (i := 5) rfl rfl ?_
        | refine sLdS (i := 0) rfl rfl ?_
        | refine sLdS (i := 1) rfl rfl ?_
        | refine sLdS (i := 2) rfl rfl ?_
        | refine sLdS (i := 3) rfl rfl ?_
        | refine sLdS (i := 4) rfl rfl ?_
        | refine sLdS (i := 5) rfl rfl ?_
        | refine rFA ?_)
      have := hnext (fun h => by rw [hn] at h; cases h.2) hL.fr
      simpa using this
    · repeat (first
        | refine rFA0 ?_
        | refine rExt0 ?_
        | refine rExt1 ?_
        | refine sExt30 ?_
        | refine sExt31 ?_
        | refine sExt2 ?_
        | refine rIfT ?_
        | refine rIfF ?_
        | refine rNot ?_
        | refine rLenB ?_
        | refine sLd hL (i := 0) rfl rfl ?_
        | refine sLd hL (i := 1) rfl rfl ?_
        | refine sLd hL (i := 2) rfl rfl ?_
        | refine sLd hL (i := 3) rfl rfl ?_
        | refine sLd hL (i := 4) rfl rfl ?_
        | refine sLd hL (i := 5) rfl rfl ?_
        | refine sLdN hL (i := 0) rfl rfl ?_
        | refine sLdN hL (i := 1) rfl rfl ?_
        | refine sLdN hL (i := 2) rfl rfl ?_
        | refine sLdN hL (i := 3) rfl rfl ?_
        | refine sLdN hL (i := 4) rfl rfl ?_
        | refine sLdN hL (i := 5) rfl rfl ?_
        | refine sLdS (i := 0) rfl rfl ?_
        | refine sLdS (i := 1) rfl rfl ?_
        | refine sLdS (i := 2) rfl rfl ?_
        | refine sLdS (i := 3) rfl rfl ?_
        | refine sLdS (i := 4) rfl rfl ?_
        | refine sLdS (i := 5) rfl rfl ?_
        | refine rFA ?_)
      refine rSNe (m := []) <| sIfNS (fun hne => ?_) (fun he => ?_)
      · rw [if_pos ⟨hne, hn⟩] at hfb
        simp only [hfb] at hK
        refine sDraw hL ?_
        repeat (first
          | refine rFA0 ?_
          | refine rExt0 ?_
          | refine rExt1 ?_
          | refine sExt30 ?_
          | refine sExt31 ?_
          | refine sExt2 ?_
          | refine rIfT ?_
          | refine rIfF ?_
          | refine rNot ?_
          | refine rLenB ?_
          | refine sLd hL (i := 0) rfl rfl ?_
          | refine sLd hL (i := 1) rfl rfl ?_
          | refine sLd hL (i := 2) rfl rfl ?_
          | refine sLd hL (i := 3) rfl rfl ?_
          | refine sLd hL (i := 4) rfl rfl ?_
          | refine sLd hL (i := 5) rfl rfl ?_
          | refine sLdN hL (i := 0) rfl rfl ?_
          | refine sLdN hL (i := 1) rfl rfl ?_
          | refine sLdN hL (i := 2) rfl rfl ?_
          | refine sLdN hL (i := 3) rfl rfl ?_
          | refine sLdN hL (i := 4) rfl rfl ?_
          | refine sLdN hL (i := 5) rfl rfl ?_
          | refine sLdS (i := 0) rfl rfl ?_
          | refine sLdS (i := 1) rfl rfl ?_
          | refine sLdS (i := 2) rfl rfl ?_
          | refine sLdS (i := 3) rfl rfl ?_
          | refine sLdS (i := 4) rfl rfl ?_
          | refine sLdS (i := 5) rfl rfl ?_
          | refine rFA ?_)
        exact hK _ (f.more hL.drew.fr)
      · have := hnext (fun h => h.1 he) hL.fr
        simpa using this
  · have hi : i = out.length := by omega
    subst hi
    rw [List.drop_length, firstBad] at hfb
    simp only [hfb] at hK
    have hright := scan_small _ _ _ _ _ _ hn (by simp)
    refine hrow.lenE ?_
    rw [List.length_map]
    refine ⟨fun vs ds W => ds = [] ∧ Fr (fun _ => False) w2 W ∧ ∃ (i : Nat), i ≤ out.length ∧ vs = [.map (some m), str (outBytes pl 0 (out.take i)), v, it out.length, it i], fun vs _ _ => bldMu out.length vs, ⟨rfl, fW, 0, by omega, rfl⟩, ?_⟩
    rintro ρ ds W ⟨rfl, fW, i, hi, hρ⟩
    rw [hρ]
    simp only [List.map_cons, List.map_nil, List.cons.injEq, and_true] at hρ
    obtain ⟨e6, e12, e52, e53, e54⟩ := hρ
    unfold F19L2
    simp only [e6, e12, e52, e53, e54]
    have hrow := hr.more fW
    have hL := Lx.of (F := fun _ => False) fW
    refine rLt <| sIfD (fun hlt => ?_) (fun hge => ?_)
    · obtain ⟨x, hx⟩ : ∃ x, out[i]? = some x := ⟨_, List.getElem?_eq_getElem (by omega)⟩
      refine hrow.at (x := x.cells) (by rw [List.getElem?_map, hx]; rfl) (fun q cs hq hc he hle _ => ?_)
      refine rLdN hc hle ?_
      rw [he]
      refine sAlloc zc72 hL (fun w5 b5 hL => ?_)
      refine sStN hL (i := 0) rfl rfl (by simp) (Ln.cells_one x) (fun w6 hL => ?_)
      have hL : Lx (fun _ => False) w2 w6 [.blk b5 x.cells] := by
        have : spl (#[it 0, it 0, it 0, it 0, it 0, it 0, str []] : Array Value).toList 0 x.cells.toArray.toList = x.cells := by simp [spl, Ln.cells]
        rw [← this]; exact hL
      have hmap := hm.fr hL.fr id
      have et : out.take (i + 1) = out.take i ++ [x] := by rw [List.take_add_one, hx]; rfl
      have hlen := outBytes_len pl (out.take i) 0
      have hlen2 : (out.take i).length = i := by rw [List.length_take]; omega
      -- the instruction is there: its bytes are added
      have fin : ∀ (y : Cd), fixN pl i x = y → -9223372036854775808 ≤ y.n → y.n < 9223372036854775808 → ∀ (W2 : World), Fr (fun _ => False) w2 W2 → CallK Tryd.prog 12 #[y.v] W2 fun v74 w_8 => vExt v74 0 fun v75 => vExt v74 1 fun v76 => vBin .string .add (str (outBytes pl 0 (out.take i))) v75 fun v79 => vBin (.int .i64) .add (it i) (it 1) fun v80 =>
          (True ∧ Fr (fun _ => False) w2 w_8 ∧ ∃ (i : Nat), i ≤ out.length ∧ [Value.map (some m), v79, v, it out.length, v80] = [.map (some m), str (outBytes pl 0 (out.take i)), v, it out.length, it i]) ∧ bldMu out.length [Value.map (some m), v79, v, it out.length, v80] < bldMu out.length [Value.map (some m), str (outBytes pl 0 (out.take i)), v, it out.length, it i] := by
        intro y hy hn1 hn2 W2 f2
        have key : ∀ (c : Int) (w8 : World), Fr (fun _ => False) W2 w8 → vExt (.tuple #[str (encB y), it c]) 0 fun v75 => vExt (.tuple #[str (encB y), it c]) 1 fun v76 => vBin .string .add (str (outBytes pl 0 (out.take i))) v75 fun v79 => vBin (.int .i64) .add (it i) (it 1) fun v80 =>
          (True ∧ Fr (fun _ => False) w2 w8 ∧ ∃ (i : Nat), i ≤ out.length ∧ [Value.map (some m), v79, v, it out.length, v80] = [.map (some m), str (outBytes pl 0 (out.take i)), v, it out.length, it i]) ∧ bldMu out.length [Value.map (some m), v79, v, it out.length, v80] < bldMu out.length [Value.map (some m), str (outBytes pl 0 (out.take i)), v, it out.length, it i] := by
          intro c w8 f8
          repeat (first
            | refine rFA0 ?_
            | refine rExt0 ?_
            | refine rExt1 ?_
            | refine sExt30 ?_
            | refine sExt31 ?_
            | refine sExt2 ?_
            | refine rIfT ?_
            | refine rIfF ?_
            | refine rNot ?_
            | refine rLenB ?_
            | refine sLd hL (i := 0) rfl rfl ?_
            | refine sLd hL (i := 1) rfl rfl ?_
            | refine sLd hL (i := 2) rfl rfl ?_
            | refine sLd hL (i := 3) rfl rfl ?_
            | refine sLd hL (i := 4) rfl rfl ?_
            | refine sLd hL (i := 5) rfl rfl ?_
            | refine sLdN hL (i := 0) rfl rfl ?_
            | refine sLdN hL (i := 1) rfl rfl ?_
            | refine sLdN hL (i := 2) rfl rfl ?_
            | refine sLdN hL (i := 3) rfl rfl ?_
            | refine sLdN hL (i := 4) rfl rfl ?_
            | refine sLdN hL (i := 5) rfl rfl ?_
            | refine sLdS (i := 0) rfl rfl ?_
            | refine sLdS (i := 1) rfl rfl ?_
            | refine sLdS (i := 2) rfl rfl ?_
            | refine sLdS (i := 3) rfl rfl ?_
            | refine sLdS (i := 4) rfl rfl ?_
            | refine sLdS (i := 5) rfl rfl ?_
            | refine rFA ?_)
          have h4 := encB_len y
          refine sAddS (by omega) ?_
          refine rAdd (by omega) (by omega) ⟨⟨trivial, f2.more f8, i + 1, by omega, ?_⟩, by simp [bldMu]; omega⟩
          rw [et, outBytes_app, hlen2, Nat.zero_add, hy]
          simp
        refine encode_spec (x := y) (hT.fr (f.more f2)) hn1 hn2 (fun w8 f8 => ?_)
        by_cases hr : rightB y = true
        · have := key 0 w8 f8
          unfold encB at this
          rw [if_pos hr] at this
          rw [if_pos hr]
          exact this
        · have := key 12 w8 f8
          unfold encB at this
          rw [if_neg hr] at this
          rw [if_neg hr]
          exact this
      have hxr := right_n (hright x (List.mem_of_getElem? hx))
      repeat (first
        | refine rFA0 ?_
        | refine rExt0 ?_
        | refine rExt1 ?_
        | refine sExt30 ?_
        | refine sExt31 ?_
        | refine sExt2 ?_
        | refine rIfT ?_
        | refine rIfF ?_
        | refine rNot ?_
        | refine rLenB ?_
        | refine sLd hL (i := 0) rfl rfl ?_
        | refine sLd hL (i := 1) rfl rfl ?_
        | refine sLd hL (i := 2) rfl rfl ?_
        | refine sLd hL (i := 3) rfl rfl ?_
        | refine sLd hL (i := 4) rfl rfl ?_
        | refine sLd hL (i := 5) rfl rfl ?_
        | refine sLdN hL (i := 0) rfl rfl ?_
        | refine sLdN hL (i := 1) rfl rfl ?_
        | refine sLdN hL (i := 2) rfl rfl ?_
        | refine sLdN hL (i := 3) rfl rfl ?_
        | refine sLdN hL (i := 4) rfl rfl ?_
        | refine sLdN hL (i := 5) rfl rfl ?_
        | refine sLdS (i := 0) rfl rfl ?_
        | refine sLdS (i := 1) rfl rfl ?_
        | refine sLdS (i := 2) rfl rfl ?_
        | refine sLdS (i := 3) rfl rfl ?_
        | refine sLdS (i := 4) rfl rfl ?_
        | refine sLdS (i := 5) rfl rfl ?_
        | refine rFA ?_)
      refine rSNe (m := []) <| sIfNS (fun hne => ?_) (fun he => ?_)
      · repeat (first
          | refine rFA0 ?_
          | refine rExt0 ?_
          | refine rExt1 ?_
          | refine sExt30 ?_
          | refine sExt31 ?_
          | refine sExt2 ?_
          | refine rIfT ?_
          | refine rIfF ?_
          | refine rNot ?_
          | refine rLenB ?_
          | refine sLd hL (i := 0) rfl rfl ?_
          | refine sLd hL (i := 1) rfl rfl ?_
          | refine sLd hL (i := 2) rfl rfl ?_
          | refine sLd hL (i := 3) rfl rfl ?_
          | refine sLd hL (i := 4) rfl rfl ?_
          | refine sLd hL (i := 5) rfl rfl ?_
          | refine sLdN hL (i := 0) rfl rfl ?_
          | refine sLdN hL (i := 1) rfl rfl ?_
          | refine sLdN hL (i := 2) rfl rfl ?_
          | refine sLdN hL (i := 3) rfl rfl ?_
          | refine sLdN hL (i := 4) rfl rfl ?_
          | refine sLdN hL (i := 5) rfl rfl ?_
          | refine sLdS (i := 0) rfl rfl ?_
          | refine sLdS (i := 1) rfl rfl ?_
          | refine sLdS (i := 2) rfl rfl ?_
          | refine sLdS (i := 3) rfl rfl ?_
          | refine sLdS (i := 4) rfl rfl ?_
          | refine sLdS (i := 5) rfl rfl ?_
          | refine rFA ?_)
        refine mapLook0 hmap ?_
        have hb : (find x.name pl).getD 0 ≤ 1000001 := by
          cases hf : find x.name pl with
          | none => simp
          | some n =>
            have key : ∀ (pl : List (List UInt8 × Nat)), find x.name pl = some n → ∃ p ∈ pl, p.2 = n := by
              intro pl
              induction pl with
              | nil => intro h; cases h
              | cons p r ih =>
                intro h
                obtain ⟨k, u⟩ := p
                unfold find at h
                split at h
                · exact ⟨(k, u), by simp, by simpa using h⟩
                · obtain ⟨p, h1, h2⟩ := ih h
                  exact ⟨p, by simp [h1], h2⟩
            obtain ⟨p, h1, h2⟩ := key pl hf
            have := hpb p h1
            simp only [Option.getD_some]; omega
        refine rSub (by omega) (by omega) <| rSub (by omega) (by omega) ?_
        repeat (first
          | refine rFA0 ?_
          | refine rExt0 ?_
          | refine rExt1 ?_
          | refine sExt30 ?_
          | refine sExt31 ?_
          | refine sExt2 ?_
          | refine rIfT ?_
          | refine rIfF ?_
          | refine rNot ?_
          | refine rLenB ?_
          | refine sLd hL (i := 0) rfl rfl ?_
          | refine sLd hL (i := 1) rfl rfl ?_
          | refine sLd hL (i := 2) rfl rfl ?_
          | refine sLd hL (i := 3) rfl rfl ?_
          | refine sLd hL (i := 4) rfl rfl ?_
          | refine sLd hL (i := 5) rfl rfl ?_
          | refine sLdN hL (i := 0) rfl rfl ?_
          | refine sLdN hL (i := 1) rfl rfl ?_
          | refine sLdN hL (i := 2) rfl rfl ?_
          | refine sLdN hL (i := 3) rfl rfl ?_
          | refine sLdN hL (i := 4) rfl rfl ?_
          | refine sLdN hL (i := 5) rfl rfl ?_
          | refine sLdS (i := 0) rfl rfl ?_
          | refine sLdS (i := 1) rfl rfl ?_
          | refine sLdS (i := 2) rfl rfl ?_
          | refine sLdS (i := 3) rfl rfl ?_
          | refine sLdS (i := 4) rfl rfl ?_
          | refine sLdS (i := 5) rfl rfl ?_
          | refine rFA ?_)
        refine sSt hL (i := 0) rfl (by simp [Ln.cells]) rfl (by intro c h; cases h) (fun w7 hL => ?_)
        repeat (first
          | refine rFA0 ?_
          | refine rExt0 ?_
          | refine rExt1 ?_
          | refine sExt30 ?_
          | refine sExt31 ?_
          | refine sExt2 ?_
          | refine rIfT ?_
          | refine rIfF ?_
          | refine rNot ?_
          | refine rLenB ?_
          | refine sLd hL (i := 0) rfl rfl ?_
          | refine sLd hL (i := 1) rfl rfl ?_
          | refine sLd hL (i := 2) rfl rfl ?_
          | refine sLd hL (i := 3) rfl rfl ?_
          | refine sLd hL (i := 4) rfl rfl ?_
          | refine sLd hL (i := 5) rfl rfl ?_
          | refine sLdN hL (i := 0) rfl rfl ?_
          | refine sLdN hL (i := 1) rfl rfl ?_
          | refine sLdN hL (i := 2) rfl rfl ?_
          | refine sLdN hL (i := 3) rfl rfl ?_
          | refine sLdN hL (i := 4) rfl rfl ?_
          | refine sLdN hL (i := 5) rfl rfl ?_
          | refine sLdS (i := 0) rfl rfl ?_
          | refine sLdS (i := 1) rfl rfl ?_
          | refine sLdS (i := 2) rfl rfl ?_
          | refine sLdS (i := 3) rfl rfl ?_
          | refine sLdS (i := 4) rfl rfl ?_
          | refine sLdS (i := 5) rfl rfl ?_
          | refine rFA ?_)
        refine sLdP hL (i := 0) (o := 1) (n := 5) rfl (by simp [Ln.cells]) ?_
        refine fin { x.code with n := ((find x.name pl).getD 0 : Nat) - (i : Int) - 1 } (by unfold fixN; rw [if_neg hne]) (by simp only; omega) (by simp only; omega) w7 hL.fr
      · repeat (first
          | refine rFA0 ?_
          | refine rExt0 ?_
          | refine rExt1 ?_
          | refine sExt30 ?_
          | refine sExt31 ?_
          | refine sExt2 ?_
          | refine rIfT ?_
          | refine rIfF ?_
          | refine rNot ?_
          | refine rLenB ?_
          | refine sLd hL (i := 0) rfl rfl ?_
          | refine sLd hL (i := 1) rfl rfl ?_
          | refine sLd hL (i := 2) rfl rfl ?_
          | refine sLd hL (i := 3) rfl rfl ?_
          | refine sLd hL (i := 4) rfl rfl ?_
          | refine sLd hL (i := 5) rfl rfl ?_
          | refine sLdN hL (i := 0) rfl rfl ?_
          | refine sLdN hL (i := 1) rfl rfl ?_
          | refine sLdN hL (i := 2) rfl rfl ?_
          | refine sLdN hL (i := 3) rfl rfl ?_
          | refine sLdN hL (i := 4) rfl rfl ?_
          | refine sLdN hL (i := 5) rfl rfl ?_
          | refine sLdS (i := 0) rfl rfl ?_
          | refine sLdS (i := 1) rfl rfl ?_
          | refine sLdS (i := 2) rfl rfl ?_
          | refine sLdS (i := 3) rfl rfl ?_
          | refine sLdS (i := 4) rfl rfl ?_
          | refine sLdS (i := 5) rfl rfl ?_
          | refine rFA ?_)
        refine sLdP hL (i := 0) (o := 1) (n := 5) rfl (by simp [Ln.cells]) ?_
        refine fin x.code (by unfold fixN; rw [if_pos he]) (by omega) (by omega) w6 hL.fr
    · have hi : i = out.length := by omega
      subst hi
      rw [List.take_length]
      exact hK W (f.more fW)

end Go.Proofs.YtnmmpgeojimgoaaDoor
