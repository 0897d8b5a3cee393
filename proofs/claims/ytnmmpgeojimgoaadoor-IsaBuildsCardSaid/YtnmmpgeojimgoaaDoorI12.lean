/-
  Isa, part 12: a program's lines. Own work.
-/
import Derived.Test.YtnmmpgeojimgoaaDoorI11
set_option linter.unusedVariables false
set_option linter.unusedSimpArgs false
set_option maxRecDepth 100000
namespace Go.Proofs.YtnmmpgeojimgoaaDoor
open Go Go.V Go.RowKit

/-- an instruction in a program: its line, what it says, a name -/
structure Ln where
  no : Nat
  code : Cd
  name : List UInt8

def Ln.cells (x : Ln) : List Value := [it x.no, it x.code.op, it x.code.a, it x.code.b, it x.code.c, it x.code.n, str x.name]

/-- a line that is an instruction whose number is a name -/
def Calls (l : List UInt8) (x : Cd) (nm : List UInt8) : Prop := Reads l x nm ∧ shNum x.op = 3 ∧ nameB nm = true

open Classical in
/-- what a line says -/
noncomputable def lineOf (l : List UInt8) : Option (Cd × List UInt8) :=
  if h : ∃ x, Says l x then some (h.choose, [])
  else if h : ∃ p : Cd × List UInt8, Calls l p.1 p.2 then some h.choose
  else none

theorem lineOf_says {l : List UInt8} {x : Cd} (h : Says l x) : lineOf l = some (x, []) := by
  have he : ∃ x, Says l x := ⟨x, h⟩
  unfold lineOf
  rw [dif_pos he, he.choose_spec.uniq h]
theorem lineOf_calls {l : List UInt8} {x : Cd} {nm : List UInt8} (hn : ∀ x, ¬ Says l x) (h : Calls l x nm) : lineOf l = some (x, nm) := by
  have he : ∃ p : Cd × List UInt8, Calls l p.1 p.2 := ⟨(x, nm), h⟩
  unfold lineOf
  rw [dif_neg (by rintro ⟨y, hy⟩; exact hn y hy), dif_pos he]
  obtain ⟨e1, e2⟩ := he.choose_spec.1.uniq h.1
  rw [← e1, ← e2]
theorem lineOf_none {l : List UInt8} (hn : ∀ x, ¬ Says l x) (hc : ∀ x nm, ¬ Calls l x nm) : lineOf l = none := by
  unfold lineOf
  rw [dif_neg (by rintro ⟨y, hy⟩; exact hn y hy), dif_neg (by rintro ⟨p, hp⟩; exact hc p.1 p.2 hp)]
theorem lineOf_cases (l : List UInt8) : (∃ x, Says l x ∧ lineOf l = some (x, [])) ∨ ((∀ x, ¬ Says l x) ∧ ∃ x nm, Calls l x nm ∧ lineOf l = some (x, nm)) ∨ ((∀ x, ¬ Says l x) ∧ (∀ x nm, ¬ Calls l x nm) ∧ lineOf l = none) := by
  by_cases h : ∃ x, Says l x
  · obtain ⟨x, hx⟩ := h
    exact .inl ⟨x, hx, lineOf_says hx⟩
  · have hn : ∀ x, ¬ Says l x := fun x hx => h ⟨x, hx⟩
    by_cases h2 : ∃ x nm, Calls l x nm
    · obtain ⟨x, nm, hx⟩ := h2
      exact .inr (.inl ⟨hn, x, nm, hx, lineOf_calls hn hx⟩)
    · have hc : ∀ x nm, ¬ Calls l x nm := fun x nm hx => h2 ⟨x, nm, hx⟩
      exact .inr (.inr ⟨hn, hc, lineOf_none hn hc⟩)

theorem calls_right {l : List UInt8} {x : Cd} {nm : List UInt8} (h : Calls l x nm) : rightB x = true := by
  refine (right_iff x).2 ⟨h.1.op, ?_, h.1.regs, h.1.rest⟩
  rw [h.2.1, h.1.n]; rfl
theorem name_ne {nm : List UInt8} (h : nameB nm = true) : nm ≠ [] := by
  rintro rfl
  revert h; decide

/-- where a name stands -/
def find (nm : List UInt8) : List (List UInt8 × Nat) → Option Nat
  | [] => none
  | (k, v) :: r => if nm = k then some v else find nm r

theorem mapAt_find (nm : List UInt8) : ∀ pl : List (List UInt8 × Nat), mapAt ⟨nm.toArray⟩ (pl.map fun p => ((⟨p.1.toArray⟩ : ByteArray), it p.2)) = (find nm pl).map fun (n : Nat) => it n
  | [] => rfl
  | (k, v) :: r => by
    simp only [List.map_cons, mapAt, find]
    have e : ((⟨nm.toArray⟩ : ByteArray) = ⟨k.toArray⟩) ↔ nm = k := by
      constructor
      · intro h
        injection h with h
        exact Array.toList_inj.2 h |> (by simpa using ·)
      · rintro rfl; rfl
    by_cases h : nm = k
    · rw [if_pos (e.2 h), if_pos h]; rfl
    · rw [if_neg (fun h2 => h (e.1 h2)), if_neg h]; exact mapAt_find nm r

theorem rField2 {a b c : Value} {K : Value → Prop} (k : K c) : vField (some (.one, 2)) (.agg #[a, b, c]) K := k

/-- a program's lines, one by one: the first that is wrong, or the instructions and the places -/
noncomputable def scan : Nat → List (List UInt8) → List Ln → List (List UInt8 × Nat) → Nat ⊕ (List Ln × List (List UInt8 × Nat))
  | _, [], out, pl => .inr (out, pl)
  | i, s :: r, out, pl =>
    if s = [] then scan (i + 1) r out pl
    else if Lib.hasSuffix s [58] = true then
      if (find (Lib.trimSuffix s [58]) pl).isSome = true ∨ nameB (Lib.trimSuffix s [58]) = false then .inl (i + 1)
      else scan (i + 1) r out (pl ++ [(Lib.trimSuffix s [58], out.length)])
    else match lineOf s with
      | some (x, nm) => scan (i + 1) r (out ++ [⟨i + 1, x, nm⟩]) pl
      | none => .inl (i + 1)

theorem scan_nil (i : Nat) (out : List Ln) (pl : List (List UInt8 × Nat)) : scan i [] out pl = .inr (out, pl) := by unfold scan; rfl
theorem scan_cons (i : Nat) (s : List UInt8) (r : List (List UInt8)) (out : List Ln) (pl : List (List UInt8 × Nat)) : scan i (s :: r) out pl =
    if s = [] then scan (i + 1) r out pl
    else if Lib.hasSuffix s [58] = true then
      if (find (Lib.trimSuffix s [58]) pl).isSome = true ∨ nameB (Lib.trimSuffix s [58]) = false then .inl (i + 1)
      else scan (i + 1) r out (pl ++ [(Lib.trimSuffix s [58], out.length)])
    else match lineOf s with
      | some (x, nm) => scan (i + 1) r (out ++ [⟨i + 1, x, nm⟩]) pl
      | none => .inl (i + 1) := by
  conv => lhs; unfold scan

abbrev plS (pl : List (List UInt8 × Nat)) : List (ByteArray × Value) := pl.map fun p => ((⟨p.1.toArray⟩ : ByteArray), it p.2)

theorem u68 : Tryd.prog.underlying 68 = some (.map 9 3) := by kernel_rfl
theorem u9 : Tryd.prog.underlying 9 = some .string := by kernel_rfl
theorem z3 : (Tryd.prog.info? 3).bind (·.zero) = some (it 0) := by kernel_rfl

theorem b72 : (fun (n a b c d e : Int) (s : ByteArray) (K : Value → Prop) => vBuild Tryd.prog 72 [(0, it n), (1, .agg #[it a, it b, it c, it d, it e]), (2, .string s)] K) = fun n a b c d e s K => ((1 : Nat) = 1 ∧ (5 : Nat) = 5 ∧ (1 : Nat) = 1 ∧ K (.agg #[it n, it a, it b, it c, it d, it e, .string s])) := by kernel_rfl
theorem build72 {n : Nat} {x : Cd} {s : List UInt8} {K : Value → Prop} (k : K (.agg (Ln.cells ⟨n, x, s⟩).toArray)) : vBuild Tryd.prog 72 [(0, it n), (1, x.v), (2, str s)] K := by
  have := congrFun (congrFun (congrFun (congrFun (congrFun (congrFun (congrFun (congrFun b72 n) x.op) x.a) x.b) x.c) x.n) ⟨s.toArray⟩) K
  exact this ▸ ⟨rfl, rfl, rfl, k⟩
theorem b72b : (fun (n a b c d e : Int) (K : Value → Prop) => vBuild Tryd.prog 72 [(0, it n), (1, .agg #[it a, it b, it c, it d, it e])] K) = fun n a b c d e K => ((1 : Nat) = 1 ∧ (5 : Nat) = 5 ∧ K (.agg #[it n, it a, it b, it c, it d, it e, str []])) := by kernel_rfl
theorem build72b {n : Nat} {x : Cd} {K : Value → Prop} (k : K (.agg (Ln.cells ⟨n, x, []⟩).toArray)) : vBuild Tryd.prog 72 [(0, it n), (1, x.v)] K := by
  have := congrFun (congrFun (congrFun (congrFun (congrFun (congrFun (congrFun b72b n) x.op) x.a) x.b) x.c) x.n) K
  exact this ▸ ⟨rfl, rfl, k⟩

theorem trimSuffix_len (p s : List UInt8) : (Lib.trimSuffix p s).length ≤ p.length := by
  unfold Lib.trimSuffix
  split
  · exact List.length_take_le' _ _
  · exact Nat.le_refl _
theorem Ln.cells_one (x : Ln) : ∀ y ∈ x.cells, y.oneCell' = true := by
  intro y hy
  simp only [Ln.cells, List.mem_cons, List.not_mem_nil, or_false] at hy
  rcases hy with rfl | rfl | rfl | rfl | rfl | rfl | rfl <;> rfl

def linMu (n : Nat) (vs : List Value) : Nat := match vs with
  | [_, _, _, _, .int _ i] => n - i.toNat
  | _ => 0
def linI (w : World) (m : Nat) (v2 : Value) (ps : List (List UInt8)) (b : Nat) (vs : List Value) (ds : List Nat) (W : World) : Prop :=
  ds = [] ∧ ∃ (i : Nat) (out : List Ln) (pl : List (List UInt8 × Nat)) (v : Value) (bl : Option Nat), i ≤ ps.length ∧ vs = [v, .map (some m), v2, it ps.length, it i] ∧
      scan 0 ps [] [] = scan i (ps.drop i) out pl ∧ out.length ≤ i ∧ (∀ p ∈ pl, p.2 ≤ i) ∧
      Lx (fun _ => False) w W [.rowM 7 v (out.map Ln.cells) bl, .row v2 (ps.map str) (some b), .mp m (plS pl)]

/-- isa.lines -/
theorem lines_spec {w : World} {l : List UInt8} {K : Value → World → Prop} (hT : Tabs w) (hl : l.length < 1000000)
    (hbad : ∀ n, scan 0 (parts 10 l) [] [] = .inl n → ∀ w', Fr (fun _ => False) w w' → K (.tuple #[.slice none 0 0, .map none, it n]) w')
    (hok : ∀ out pl, scan 0 (parts 10 l) [] [] = .inr (out, pl) → ∀ w' v bl m, Fr (fun _ => False) w w' → RowM 7 w' v (out.map Ln.cells) bl → MapS w' m (plS pl) → out.length ≤ l.length + 1 → (∀ p ∈ pl, p.2 ≤ l.length + 1) → K (.tuple #[v, .map (some m), it 0]) w') :
    CallK Tryd.prog 41 #[str l] w K := by
  apply Ret.call
  apply F41_ok
  unfold F41
  have hL := Lx.start (fun _ => False) w
  refine sMakeMap hL (fun w1 m hL => ?_)
  refine split_spec (hT.fr hL.fr) (by omega) (fun w2 v2 hr f2 => ?_)
  have hL := hL.newRow hr (Nat.le_refl _) f2
  refine sLen hL (i := 0) rfl ?_
  rw [List.length_map]
  have hpl := parts_len (c := 10) l
  have hsm := fun p => parts_small (c := 10) (l := l) (p := p)
  generalize hps : parts 10 l = ps at *
  have hL := hL.nilRowM 7
  refine ⟨linI w m v2 ps w1.heap.size, fun vs _ _ => linMu ps.length vs, ⟨rfl, 0, [], [], _, none, by omega, rfl, rfl, by simp, by simp, hL⟩, ?_⟩
  rintro ρ ds W ⟨rfl, i, out, pl, v, bl, hi, hρ, hsc, hol, hpb, hL⟩
  rw [hρ]
  simp only [List.map_cons, List.map_nil, List.cons.injEq, and_true] at hρ
  obtain ⟨e5, e6, e20, e21, e22⟩ := hρ
  unfold F41L1
  simp only [e5, e6, e20, e21, e22]
  refine rLt <| sIfD (fun hlt => ?_) (fun hge => ?_)
  · obtain ⟨p, hp⟩ : ∃ p, ps[i]? = some p := ⟨_, List.getElem?_eq_getElem (by omega)⟩
    have hpm := hsm p (List.mem_of_getElem? hp)
    have hdrop : ps.drop i = p :: ps.drop (i + 1) := by
      have hlt : i < ps.length := by omega
      rw [List.drop_eq_getElem_cons hlt]
      congr 1
      rw [List.getElem?_eq_getElem hlt] at hp
      exact Option.some.inj hp
    rw [hdrop, scan_cons] at hsc
    refine sIdx hL (i := 1) rfl (x := str p) (by rw [List.getElem?_map, hp]; rfl) ?_
    refine rSEq (m := []) <| sIfS (fun h => ?_) (fun h => ?_)
    · rw [if_pos h] at hsc
      refine rAdd (by omega) (by omega) ⟨⟨by trivial, i + 1, out, pl, v, bl, by omega, by simp, hsc, by omega, fun q hq => by have := hpb q hq; omega, hL⟩, by simp [linMu]; omega⟩
    rw [if_neg h] at hsc
    refine cutSuffix_spec (by omega) ?_
    repeat (first
      | refine rFA0 ?_
      | refine rExt0 ?_
      | refine rExt1 ?_
      | refine sExt30 ?_
      | refine sExt31 ?_
      | refine sExt2 ?_
      | refine rIfT ?_
      | refine rIfF ?_
      | refine rNot ?_
      | refine rLenB ?_
      | refine sLd hL (i := 0) rfl rfl ?_
      | refine sLd hL (i := 1) rfl rfl ?_
      | refine sLd hL (i := 2) rfl rfl ?_
      | refine sLd hL (i := 3) rfl rfl ?_
      | refine sLd hL (i := 4) rfl rfl ?_
      | refine sLd hL (i := 5) rfl rfl ?_
      | refine sLdN hL (i := 0) rfl rfl ?_
      | refine sLdN hL (i := 1) rfl rfl ?_
      | refine sLdN hL (i := 2) rfl rfl ?_
      | refine sLdN hL (i := 3) rfl rfl ?_
      | refine sLdN hL (i := 4) rfl rfl ?_
      | refine sLdN hL (i := 5) rfl rfl ?_
      | refine sLdS (i := 0) rfl rfl ?_
      | refine sLdS (i := 1) rfl rfl ?_
      | refine sLdS (i := 2) rfl rfl ?_
      | refine sLdS (i := 3) rfl rfl ?_
      | refine sLdS (i := 4) rfl rfl ?_
      | refine sLdS (i := 5) rfl rfl ?_
      | refine rFA ?_)
    refine sIf (fun h1 => ?_) (fun h1 => ?_)
    · rw [if_pos h1] at hsc
      have hnl : (Lib.trimSuffix p [58]).length < 1000000000 := Nat.lt_of_le_of_lt (trimSuffix_len p [58]) (by omega)
      have hfail : ((find (Lib.trimSuffix p [58]) pl).isSome = true ∨ nameB (Lib.trimSuffix p [58]) = false) → vBin (.int .i64) .add (it i) (it 1) fun v48 => leaveV [] W fun W => K (.tuple #[.slice none 0 0, .map none, v48]) W := by
        intro hf
        rw [if_pos hf] at hsc
        refine rAdd (by omega) (by omega) ?_
        have := hbad (i + 1) hsc W hL.fr
        have e : ((i + 1 : Nat) : Int) = (i : Int) + 1 := by omega
        rw [e] at this
        exact this
      refine (hL.mp (i := 2) rfl).look u68 u9 z3 (fun u hu => ?_) (fun hu => ?_)
      · repeat (first
          | refine rFA0 ?_
          | refine rExt0 ?_
          | refine rExt1 ?_
          | refine sExt30 ?_
          | refine sExt31 ?_
          | refine sExt2 ?_
          | refine rIfT ?_
          | refine rIfF ?_
          | refine rNot ?_
          | refine rLenB ?_
          | refine sLd hL (i := 0) rfl rfl ?_
          | refine sLd hL (i := 1) rfl rfl ?_
          | refine sLd hL (i := 2) rfl rfl ?_
          | refine sLd hL (i := 3) rfl rfl ?_
          | refine sLd hL (i := 4) rfl rfl ?_
          | refine sLd hL (i := 5) rfl rfl ?_
          | refine sLdN hL (i := 0) rfl rfl ?_
          | refine sLdN hL (i := 1) rfl rfl ?_
          | refine sLdN hL (i := 2) rfl rfl ?_
          | refine sLdN hL (i := 3) rfl rfl ?_
          | refine sLdN hL (i := 4) rfl rfl ?_
          | refine sLdN hL (i := 5) rfl rfl ?_
          | refine sLdS (i := 0) rfl rfl ?_
          | refine sLdS (i := 1) rfl rfl ?_
          | refine sLdS (i := 2) rfl rfl ?_
          | refine sLdS (i := 3) rfl rfl ?_
          | refine sLdS (i := 4) rfl rfl ?_
          | refine sLdS (i := 5) rfl rfl ?_
          | refine rFA ?_)
        refine hfail (.inl ?_)
        rw [mapAt_find] at hu
        cases hf : find (Lib.trimSuffix p [58]) pl with
        | none => rw [hf] at hu; cases hu
        | some n => rfl
      · repeat (first
          | refine rFA0 ?_
          | refine rExt0 ?_
          | refine rExt1 ?_
          | refine sExt30 ?_
          | refine sExt31 ?_
          | refine sExt2 ?_
          | refine rIfT ?_
          | refine rIfF ?_
          | refine rNot ?_
          | refine rLenB ?_
          | refine sLd hL (i := 0) rfl rfl ?_
          | refine sLd hL (i := 1) rfl rfl ?_
          | refine sLd hL (i := 2) rfl rfl ?_
          | refine sLd hL (i := 3) rfl rfl ?_
          | refine sLd hL (i := 4) rfl rfl ?_
          | refine sLd hL (i := 5) rfl rfl ?_
          | refine sLdN hL (i := 0) rfl rfl ?_
          | refine sLdN hL (i := 1) rfl rfl ?_
          | refine sLdN hL (i := 2) rfl rfl ?_
          | refine sLdN hL (i := 3) rfl rfl ?_
          | refine sLdN hL (i := 4) rfl rfl ?_
          | refine sLdN hL (i := 5) rfl rfl ?_
          | refine sLdS (i := 0) rfl rfl ?_
          | refine sLdS (i := 1) rfl rfl ?_
          | refine sLdS (i := 2) rfl rfl ?_
          | refine sLdS (i := 3) rfl rfl ?_
          | refine sLdS (i := 4) rfl rfl ?_
          | refine sLdS (i := 5) rfl rfl ?_
          | refine rFA ?_)
        refine isName_spec hnl ?_
        refine rNot <| sIfN (fun h2 => ?_) (fun h2 => ?_)
        · exact hfail (.inr h2)
        · have hnone : find (Lib.trimSuffix p [58]) pl = none := by
            rw [mapAt_find] at hu
            cases hf : find (Lib.trimSuffix p [58]) pl with
            | none => rfl
            | some n => rw [hf] at hu; cases hu
          rw [if_neg (by rw [hnone, h2]; simp)] at hsc
          refine (hL.rowM (i := 0) rfl).lenE ?_
          rw [List.length_map]
          refine sMapUpd u68 u9 hL (i := 2) rfl hu (fun w3 hL => ?_)
          refine rAdd (by omega) (by omega) ⟨⟨by trivial, i + 1, out, _, v, bl, by omega, by simp, hsc, by omega, ?_, ?_⟩, by simp [linMu]; omega⟩
          · intro q hq
            rcases List.mem_append.1 hq with hq | hq
            · have := hpb q hq; omega
            · rw [List.mem_singleton.1 hq]; simp only; omega
          · have e : plS (pl ++ [(Lib.trimSuffix p [58], out.length)]) = plS pl ++ [(⟨(Lib.trimSuffix p [58]).toArray⟩, it out.length)] := by simp [plS]
            rw [e]; exact hL
    rw [if_neg (by rw [h1]; decide)] at hsc
    have go : ∀ {x : Cd} {nm : List UInt8} {W2 : World} {L2 : List As}, lineOf p = some (x, nm) → Lx (fun _ => False) w W2 ([.rowM 7 v (out.map Ln.cells) bl, .row v2 (ps.map str) (some w1.heap.size), .mp m (plS pl)]) →
        vBuildSlice Tryd.prog 67 1 [(0, .agg (Ln.cells ⟨i + 1, x, nm⟩).toArray)] W2 fun v95 w_14 => vAppend Tryd.prog 67 67 v v95 w_14 fun v96 w_15 => vBin (.int .i64) .add (it i) (it 1) fun v97 =>
          linI w m v2 ps w1.heap.size [v96, .map (some m), v2, it ps.length, v97] [] w_15 ∧ linMu ps.length [v96, .map (some m), v2, it ps.length, v97] < linMu ps.length [v, .map (some m), v2, it ps.length, it i] := by
      intro x nm W2 L2 hlo hL
      rw [hlo] at hsc
      refine sAppM eLn (by decide) hL (i := 0) rfl rfl rfl (Ln.cells_one _) (by simp; omega) (fun w5 v5 bl5 hL hne => ?_)
      refine rAdd (by omega) (by omega) ⟨⟨rfl, i + 1, out ++ [⟨i + 1, x, nm⟩], pl, v5, bl5, by omega, by simp, hsc, by simp; omega, fun q hq => by have := hpb q hq; omega, ?_⟩, by simp [linMu]; omega⟩
      rw [List.map_append]
      exact hL
    have e1 : (i : Int) + 1 = ((i + 1 : Nat) : Int) := by omega
    refine parse_spec (hT.fr hL.fr) (by omega) (fun x hx w3 f3 => ?_) (fun hno w3 f3 => ?_)
    · have hL := hL.more f3
      repeat (first
        | refine rFA0 ?_
        | refine rExt0 ?_
        | refine rExt1 ?_
        | refine sExt30 ?_
        | refine sExt31 ?_
        | refine sExt2 ?_
        | refine rIfT ?_
        | refine rIfF ?_
        | refine rNot ?_
        | refine rLenB ?_
        | refine sLd hL (i := 0) rfl rfl ?_
        | refine sLd hL (i := 1) rfl rfl ?_
        | refine sLd hL (i := 2) rfl rfl ?_
        | refine sLd hL (i := 3) rfl rfl ?_
        | refine sLd hL (i := 4) rfl rfl ?_
        | refine sLd hL (i := 5) rfl rfl ?_
        | refine sLdN hL (i := 0) rfl rfl ?_
        | refine sLdN hL (i := 1) rfl rfl ?_
        | refine sLdN hL (i := 2) rfl rfl ?_
        | refine sLdN hL (i := 3) rfl rfl ?_
        | refine sLdN hL (i := 4) rfl rfl ?_
        | refine sLdN hL (i := 5) rfl rfl ?_
        | refine sLdS (i := 0) rfl rfl ?_
        | refine sLdS (i := 1) rfl rfl ?_
        | refine sLdS (i := 2) rfl rfl ?_
        | refine sLdS (i := 3) rfl rfl ?_
        | refine sLdS (i := 4) rfl rfl ?_
        | refine sLdS (i := 5) rfl rfl ?_
        | refine rFA ?_)
      refine sAlloc zc23 hL (fun w4 b4 hL => ?_)
      refine sStN hL (i := 0) rfl rfl (by simp) (by intro y hy; simp at hy; rcases hy with rfl | rfl | rfl | rfl | rfl <;> rfl) (fun w5 hL => ?_)
      have hL : Lx (fun _ => False) w w5 [.blk b4 x.cs, .rowM 7 v (out.map Ln.cells) bl, .row v2 (ps.map str) (some w1.heap.size), .mp m (plS pl)] := hL
      refine rEq <| rIfT ?_
      refine rAdd (by omega) (by omega) ?_
      repeat (first
        | refine rFA0 ?_
        | refine rExt0 ?_
        | refine rExt1 ?_
        | refine sExt30 ?_
        | refine sExt31 ?_
        | refine sExt2 ?_
        | refine rIfT ?_
        | refine rIfF ?_
        | refine rNot ?_
        | refine rLenB ?_
        | refine sLd hL (i := 0) rfl rfl ?_
        | refine sLd hL (i := 1) rfl rfl ?_
        | refine sLd hL (i := 2) rfl rfl ?_
        | refine sLd hL (i := 3) rfl rfl ?_
        | refine sLd hL (i := 4) rfl rfl ?_
        | refine sLd hL (i := 5) rfl rfl ?_
        | refine sLdN hL (i := 0) rfl rfl ?_
        | refine sLdN hL (i := 1) rfl rfl ?_
        | refine sLdN hL (i := 2) rfl rfl ?_
        | refine sLdN hL (i := 3) rfl rfl ?_
        | refine sLdN hL (i := 4) rfl rfl ?_
        | refine sLdN hL (i := 5) rfl rfl ?_
        | refine sLdS (i := 0) rfl rfl ?_
        | refine sLdS (i := 1) rfl rfl ?_
        | refine sLdS (i := 2) rfl rfl ?_
        | refine sLdS (i := 3) rfl rfl ?_
        | refine sLdS (i := 4) rfl rfl ?_
        | refine sLdS (i := 5) rfl rfl ?_
        | refine rFA ?_)
      rw [e1]
      refine build72b ?_
      have := go (L2 := []) (lineOf_says hx) (hL.sub (by simp))
      simpa using this
    · have hL := hL.more f3
      repeat (first
        | refine rFA0 ?_
        | refine rExt0 ?_
        | refine rExt1 ?_
        | refine sExt30 ?_
        | refine sExt31 ?_
        | refine sExt2 ?_
        | refine rIfT ?_
        | refine rIfF ?_
        | refine rNot ?_
        | refine rLenB ?_
        | refine sLd hL (i := 0) rfl rfl ?_
        | refine sLd hL (i := 1) rfl rfl ?_
        | refine sLd hL (i := 2) rfl rfl ?_
        | refine sLd hL (i := 3) rfl rfl ?_
        | refine sLd hL (i := 4) rfl rfl ?_
        | refine sLd hL (i := 5) rfl rfl ?_
        | refine sLdN hL (i := 0) rfl rfl ?_
        | refine sLdN hL (i := 1) rfl rfl ?_
        | refine sLdN hL (i := 2) rfl rfl ?_
        | refine sLdN hL (i := 3) rfl rfl ?_
        | refine sLdN hL (i := 4) rfl rfl ?_
        | refine sLdN hL (i := 5) rfl rfl ?_
        | refine sLdS (i := 0) rfl rfl ?_
        | refine sLdS (i := 1) rfl rfl ?_
        | refine sLdS (i := 2) rfl rfl ?_
        | refine sLdS (i := 3) rfl rfl ?_
        | refine sLdS (i := 4) rfl rfl ?_
        | refine sLdS (i := 5) rfl rfl ?_
        | refine rFA ?_)
      refine sAlloc zc23 hL (fun w4 b4 hL => ?_)
      refine sStN hL (i := 0) rfl rfl (by simp) (by intro y hy; simp at hy; rcases hy with rfl | rfl | rfl | rfl | rfl <;> rfl) (fun w5 hL => ?_)
      have hL := hL.sub (L' := [.rowM 7 v (out.map Ln.cells) bl, .row v2 (ps.map str) (some w1.heap.size), .mp m (plS pl)]) (by simp)
      refine rEq <| rIfF ?_
      have bad : (∀ x nm, ¬ Calls p x nm) → ∀ {W2 : World}, Fr (fun _ => False) w W2 → vBin (.int .i64) .add (it i) (it 1) fun v48 => leaveV [] W2 fun W => K (.tuple #[.slice none 0 0, .map none, v48]) W := by
        intro hc W2 f
        rw [lineOf_none hno hc] at hsc
        refine rAdd (by omega) (by omega) ?_
        have := hbad (i + 1) hsc W2 f
        rw [← e1] at this
        exact this
      refine read_spec (hT.fr hL.fr) (by omega) (fun x num hx w6 f6 => ?_) (fun hnr w6 f6 => ?_)
      · have hL := hL.more f6
        repeat (first
          | refine rFA0 ?_
          | refine rExt0 ?_
          | refine rExt1 ?_
          | refine sExt30 ?_
          | refine sExt31 ?_
          | refine sExt2 ?_
          | refine rIfT ?_
          | refine rIfF ?_
          | refine rNot ?_
          | refine rLenB ?_
          | refine sLd hL (i := 0) rfl rfl ?_
          | refine sLd hL (i := 1) rfl rfl ?_
          | refine sLd hL (i := 2) rfl rfl ?_
          | refine sLd hL (i := 3) rfl rfl ?_
          | refine sLd hL (i := 4) rfl rfl ?_
          | refine sLd hL (i := 5) rfl rfl ?_
          | refine sLdN hL (i := 0) rfl rfl ?_
          | refine sLdN hL (i := 1) rfl rfl ?_
          | refine sLdN hL (i := 2) rfl rfl ?_
          | refine sLdN hL (i := 3) rfl rfl ?_
          | refine sLdN hL (i := 4) rfl rfl ?_
          | refine sLdN hL (i := 5) rfl rfl ?_
          | refine sLdS (i := 0) rfl rfl ?_
          | refine sLdS (i := 1) rfl rfl ?_
          | refine sLdS (i := 2) rfl rfl ?_
          | refine sLdS (i := 3) rfl rfl ?_
          | refine sLdS (i := 4) rfl rfl ?_
          | refine sLdS (i := 5) rfl rfl ?_
          | refine rFA ?_)
        refine sAlloc zc23 hL (fun w7 b7 hL => ?_)
        refine sStN hL (i := 0) rfl rfl (by simp) (by intro y hy; simp at hy; rcases hy with rfl | rfl | rfl | rfl | rfl <;> rfl) (fun w8 hL => ?_)
        have hL : Lx (fun _ => False) w w8 [.blk b7 x.cs, .rowM 7 v (out.map Ln.cells) bl, .row v2 (ps.map str) (some w1.heap.size), .mp m (plS pl)] := hL
        have main : ∀ (q : Bool) (W2 : World), Lx (fun _ => False) w W2 [.blk b7 x.cs, .rowM 7 v (out.map Ln.cells) bl, .row v2 (ps.map str) (some w1.heap.size), .mp m (plS pl)] → (q = false ↔ Calls p x num) →
            ∀ ρ : Env, [5, 6, 7, 15, 16, 20, 21, 22, 86].map ρ = [v, .map (some m), it i, pt b7 0, str num, v2, it ps.length, it i, .bool q] → F41J3 K (fun vs ds' w' => linI w m v2 ps w1.heap.size vs ds' w' ∧ linMu ps.length vs < linMu ps.length [v, .map (some m), v2, it ps.length, it i]) ρ [] W2 := by
          intro q W2 hL hq ρ hρ
          simp only [List.map_cons, List.map_nil, List.cons.injEq, and_true] at hρ
          obtain ⟨e5, e6, e7, e15, e16, e20, e21, e22, e86⟩ := hρ
          unfold F41J3
          simp only [e5, e6, e7, e15, e16, e20, e21, e22, e86]
          refine sIf (fun h2 => ?_) (fun h2 => ?_)
          · refine bad (fun x' nm' hc' => ?_) hL.fr
            obtain ⟨e1, e2⟩ := hc'.1.uniq hx
            rw [e1, e2] at hc'
            rw [hq.2 hc'] at h2
            cases h2
          · refine rAdd (by omega) (by omega) ?_
            repeat (first
              | refine rFA0 ?_
              | refine rExt0 ?_
              | refine rExt1 ?_
              | refine sExt30 ?_
              | refine sExt31 ?_
              | refine sExt2 ?_
              | refine rIfT ?_
              | refine rIfF ?_
              | refine rNot ?_
              | refine rLenB ?_
              | refine sLd hL (i := 0) rfl rfl ?_
              | refine sLd hL (i := 1) rfl rfl ?_
              | refine sLd hL (i := 2) rfl rfl ?_
              | refine sLd hL (i := 3) rfl rfl ?_
              | refine sLd hL (i := 4) rfl rfl ?_
              | refine sLd hL (i := 5) rfl rfl ?_
              | refine sLdN hL (i := 0) rfl rfl ?_
              | refine sLdN hL (i := 1) rfl rfl ?_
              | refine sLdN hL (i := 2) rfl rfl ?_
              | refine sLdN hL (i := 3) rfl rfl ?_
              | refine sLdN hL (i := 4) rfl rfl ?_
              | refine sLdN hL (i := 5) rfl rfl ?_
              | refine sLdS (i := 0) rfl rfl ?_
              | refine sLdS (i := 1) rfl rfl ?_
              | refine sLdS (i := 2) rfl rfl ?_
              | refine sLdS (i := 3) rfl rfl ?_
              | refine sLdS (i := 4) rfl rfl ?_
              | refine sLdS (i := 5) rfl rfl ?_
              | refine rFA ?_)
            rw [e1]
            refine build72 ?_
            have := go (L2 := []) (lineOf_calls hno (hq.1 h2)) (hL.sub (by simp))
            simpa using this
        refine sJoin ?_
        repeat (first
          | refine rFA0 ?_
          | refine rExt0 ?_
          | refine rExt1 ?_
          | refine sExt30 ?_
          | refine sExt31 ?_
          | refine sExt2 ?_
          | refine rIfT ?_
          | refine rIfF ?_
          | refine rNot ?_
          | refine rLenB ?_
          | refine sLd hL (i := 0) rfl rfl ?_
          | refine sLd hL (i := 1) rfl rfl ?_
          | refine sLd hL (i := 2) rfl rfl ?_
          | refine sLd hL (i := 3) rfl rfl ?_
          | refine sLd hL (i := 4) rfl rfl ?_
          | refine sLd hL (i := 5) rfl rfl ?_
          | refine sLdN hL (i := 0) rfl rfl ?_
          | refine sLdN hL (i := 1) rfl rfl ?_
          | refine sLdN hL (i := 2) rfl rfl ?_
          | refine sLdN hL (i := 3) rfl rfl ?_
          | refine sLdN hL (i := 4) rfl rfl ?_
          | refine sLdN hL (i := 5) rfl rfl ?_
          | refine sLdS (i := 0) rfl rfl ?_
          | refine sLdS (i := 1) rfl rfl ?_
          | refine sLdS (i := 2) rfl rfl ?_
          | refine sLdS (i := 3) rfl rfl ?_
          | refine sLdS (i := 4) rfl rfl ?_
          | refine sLdS (i := 5) rfl rfl ?_
          | refine rFA ?_)
        refine shape_spec (hT.fr hL.fr) (fun w9 f9 => ?_)
        have hL := hL.more f9
        refine rField2 <| rNe <| sIfNE (fun h3 => ?_) (fun h3 => ?_)
        · exact main true w9 hL ⟨fun h => (by cases h), fun h => absurd h.2.1 h3⟩
        · refine isName_spec (by
            have hw := hx.words
            rw [if_neg (by omega)] at hw
            have := parts_small (c := 32) (l := p) (p := num) (by rw [hw]; simp)
            omega) ?_
          refine rNot ?_
          exact main (!nameB num) w9 hL ⟨fun h => ⟨hx, h3, by simpa using h⟩, fun h => by simp [h.2.2]⟩
      · have hL := hL.more f6
        repeat (first
          | refine rFA0 ?_
          | refine rExt0 ?_
          | refine rExt1 ?_
          | refine sExt30 ?_
          | refine sExt31 ?_
          | refine sExt2 ?_
          | refine rIfT ?_
          | refine rIfF ?_
          | refine rNot ?_
          | refine rLenB ?_
          | refine sLd hL (i := 0) rfl rfl ?_
          | refine sLd hL (i := 1) rfl rfl ?_
          | refine sLd hL (i := 2) rfl rfl ?_
          | refine sLd hL (i := 3) rfl rfl ?_
          | refine sLd hL (i := 4) rfl rfl ?_
          | refine sLd hL (i := 5) rfl rfl ?_
          | refine sLdN hL (i := 0) rfl rfl ?_
          | refine sLdN hL (i := 1) rfl rfl ?_
          | refine sLdN hL (i := 2) rfl rfl ?_
          | refine sLdN hL (i := 3) rfl rfl ?_
          | refine sLdN hL (i := 4) rfl rfl ?_
          | refine sLdN hL (i := 5) rfl rfl ?_
          | refine sLdS (i := 0) rfl rfl ?_
          | refine sLdS (i := 1) rfl rfl ?_
          | refine sLdS (i := 2) rfl rfl ?_
          | refine sLdS (i := 3) rfl rfl ?_
          | refine sLdS (i := 4) rfl rfl ?_
          | refine sLdS (i := 5) rfl rfl ?_
          | refine rFA ?_)
        refine sAlloc zc23 hL (fun w7 b7 hL => ?_)
        refine sStN hL (i := 0) rfl rfl (by simp) (by intro y hy; simp at hy; rcases hy with rfl | rfl | rfl | rfl | rfl <;> rfl) (fun w8 hL => ?_)
        refine sJoin ?_
        repeat (first
          | refine rFA0 ?_
          | refine rExt0 ?_
          | refine rExt1 ?_
          | refine sExt30 ?_
          | refine sExt31 ?_
          | refine sExt2 ?_
          | refine rIfT ?_
          | refine rIfF ?_
          | refine rNot ?_
          | refine rLenB ?_
          | refine sLd hL (i := 0) rfl rfl ?_
          | refine sLd hL (i := 1) rfl rfl ?_
          | refine sLd hL (i := 2) rfl rfl ?_
          | refine sLd hL (i := 3) rfl rfl ?_
          | refine sLd hL (i := 4) rfl rfl ?_
          | refine sLd hL (i := 5) rfl rfl ?_
          | refine sLdN hL (i := 0) rfl rfl ?_
          | refine sLdN hL (i := 1) rfl rfl ?_
          | refine sLdN hL (i := 2) rfl rfl ?_
          | refine sLdN hL (i := 3) rfl rfl ?_
          | refine sLdN hL (i := 4) rfl rfl ?_
          | refine sLdN hL (i := 5) rfl rfl ?_
          | refine sLdS (i := 0) rfl rfl ?_
          | refine sLdS (i := 1) rfl rfl ?_
          | refine sLdS (i := 2) rfl rfl ?_
          | refine sLdS (i := 3) rfl rfl ?_
          | refine sLdS (i := 4) rfl rfl ?_
          | refine sLdS (i := 5) rfl rfl ?_
          | refine rFA ?_)
        intro ρ hρ
        simp only [List.map_cons, List.map_nil, List.cons.injEq, and_true] at hρ
        obtain ⟨e5, e6, e7, e15, e16, e20, e21, e22, e86⟩ := hρ
        unfold F41J3
        simp only [e5, e6, e7, e15, e16, e20, e21, e22, e86]
        refine rIfT ?_
        exact bad (fun x nm hc => hnr x nm hc.1) hL.fr
  · have hi : i = ps.length := by omega
    subst hi
    rw [List.drop_length, scan_nil] at hsc
    exact hok out pl hsc W v bl m hL.fr (hL.rowM (i := 0) rfl) (hL.mp (i := 2) rfl) (by omega) (fun q hq => by have := hpb q hq; omega)

end Go.Proofs.YtnmmpgeojimgoaaDoor
