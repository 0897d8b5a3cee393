/-
  Isa, part 15: the document's Parse. Own work.
-/
import Derived.Test.YtnmmpgeojimgoaaDoorI14
set_option linter.unusedVariables false
set_option linter.unusedSimpArgs false
set_option maxRecDepth 100000
namespace Go.Proofs.YtnmmpgeojimgoaaDoor
open Go Go.V Go.RowKit

theorem lineOf_noReads {l : List UInt8} (h : ∀ x num, ¬ Reads l x num) : lineOf l = none :=
  lineOf_none (fun x hx => h _ _ (says_reads hx)) (fun x nm hx => h _ _ hx.1)

theorem itoa_zero : Lib.itoa 0 = [48] := by
  rw [itoa_nat (by decide)]
  show Lib.decDigits 0 = _
  rw [dec_step]; rfl

/-- a name in the number's place -/
theorem txt_name {y : Cd} {nm : List UInt8} (h0 : shNum y.op ≠ 0) (hn : y.n = 0) : (txt y).take ((txt y).length - 1) ++ nm = Lib.join (opName y.op :: (regsOf y).map regT ++ [nm]) [32] := by
  rw [txt_parts, if_neg h0, hn, itoa_zero, List.cons_append, Lib.join_cons]
  unfold Lib.joinTail
  rw [List.map_append, List.flatten_append, List.map_map]
  have e : opName y.op ++ (((regsOf y).map fun r => 32 :: regT r).flatten ++ [32, 48]) = (opName y.op ++ (((regsOf y).map fun r => 32 :: regT r).flatten ++ [32])) ++ [48] := by simp
  rw [e]
  have e2 : (opName y.op ++ (((regsOf y).map fun r => 32 :: regT r).flatten ++ [32]) ++ [48]).length - 1 = (opName y.op ++ (((regsOf y).map fun r => 32 :: regT r).flatten ++ [32])).length := by rw [List.length_append]; rfl
  rw [e2, List.take_left]
  simp only [List.append_assoc]
  congr 2
  simp

theorem reg_no (r : Int) {c : UInt8} (h : c.toNat < 45) : c ∉ regT r := by
  intro hc
  unfold regT at hc
  rcases List.mem_cons.1 hc with e | hc
  · rw [e] at h; revert h; decide
  · exact itoa_no h hc
theorem name_no {nm : List UInt8} (h : nameB nm = true) {c : UInt8} (hc : c.toNat < 97) : c ∉ nm := fun hm => by
  have := name_letters h c hm; omega

theorem parts_name {y : Cd} {nm : List UInt8} (h : nameB nm = true) : parts 32 (Lib.join (opName y.op :: (regsOf y).map regT ++ [nm]) [32]) = opName y.op :: (regsOf y).map regT ++ [nm] := by
  refine parts_join (by simp) fun x hx => ?_
  rcases List.mem_append.1 hx with hx | hx
  · rcases List.mem_cons.1 hx with rfl | hx
    · exact opName_no (by decide)
    · obtain ⟨r, _, rfl⟩ := List.mem_map.1 hx
      exact reg_no r (by decide)
  · rw [List.mem_singleton.1 hx]; exact name_no h (by decide)

/-- what is known when all words are read -/
structure Known (l : List UInt8) (y : Cd) (nm : List UInt8) : Prop where
  says : ∀ x, Says l x → nm = [] ∧ x = y
  calls : ∀ x n, Calls l x n → x = y ∧ n = nm ∧ nm ≠ []
  name : nm ≠ [] → nameB nm = true ∧ shNum y.op = 3 ∧ y.n = 0
  n : -1000000 < y.n ∧ y.n < 1000000

theorem known_name {l : List UInt8} {y : Cd} {nm : List UInt8} (h : Known l y nm) (hr : rightB y = true) (hnm : nm ≠ []) :
    ((txt y).take ((txt y).length - 1) ++ nm = l → lineOf l = some (y, nm)) ∧ ((txt y).take ((txt y).length - 1) ++ nm ≠ l → lineOf l = none) := by
  obtain ⟨h1, h2, h3⟩ := h.name hnm
  have hno : ∀ x, ¬ Says l x := fun x hx => hnm (h.says x hx).1
  have h0 : shNum y.op ≠ 0 := by omega
  constructor
  · intro e
    refine lineOf_calls hno ⟨?_, h2, h1⟩
    obtain ⟨g1, g2, g3, g4⟩ := (right_iff y).1 hr
    refine ⟨g1, h3, ?_, g3, g4, fun e0 => absurd e0 h0⟩
    rw [← e, txt_name h0 h3, if_neg h0]
    exact parts_name h1
  · intro e
    refine lineOf_none hno fun x n hc => e ?_
    obtain ⟨rfl, rfl, _⟩ := h.calls x n hc
    rw [txt_name h0 h3]
    have := hc.1.words
    rw [if_neg h0] at this
    rw [← this]
    exact join_parts 32 l

section
variable {w w2 : World} {l : List UInt8} {b1 b4 : Nat} {K : Value → World → Prop}

theorem rread_bad {w0 w : World} {L : List As} {i b : Nat} {cs : List Value} {u v : Value} (hL : Lx (fun _ => False) w0 w L) (hi : L[i]? = some (.blk b cs)) (hc : cs.length = 5)
    (hK : ∀ w', Fr (fun _ => False) w0 w' → K (.tuple #[cd0.v, u, v]) w') :
    vBuild Tryd.prog 23 [] fun x => vSt (some 5) (pt b 0) x w fun w' => leaveV [] w' fun W => vLd (.agg 5) (pt b 0) W fun r => K (.tuple #[r, u, v]) W := read_bad hL hi hc hK

/-- a block of an instruction is laid into the answer's -/
theorem cd_out {L : List As} {i : Nat} {cs : List Value} {y : Cd} {u v : Value} (hL : Lx (fun _ => False) w w2 L) (hi : L[i]? = some (.blk b1 cs)) (hc : cs.length = 5) (hK : ∀ w', Fr (fun _ => False) w w' → K (.tuple #[y.v, u, v]) w') :
    vSt (some 5) (pt b1 0) y.v w2 fun w' => leaveV [] w' fun W => vLd (.agg 5) (pt b1 0) W fun r => K (.tuple #[r, u, v]) W := by
  refine sStN hL hi rfl (by simp; omega) (by intro x hx; simp at hx; rcases hx with rfl | rfl | rfl | rfl | rfl <;> rfl) (fun w' hL' => ?_)
  have hlt := (List.getElem?_eq_some_iff.1 hi).1
  show vLd (.agg 5) (pt b1 0) w' fun r => K (.tuple #[r, u, v]) w'
  refine sLdN hL' (i := i) (by rw [List.getElem?_set]; simp [hlt]; rfl) (by simp [spl, hc]) ?_
  have e : spl cs 0 y.cs.toArray.toList = y.cs := by simp [spl, hc]
  rw [e]
  exact hK w' hL'.fr

/-- the end: is it right, and is its text what was read? -/
theorem rparse_end {nm : List UInt8} {y : Cd} {cs : List Value} (hL : Lx (fun _ => False) w w2 [.blk b4 y.cs, .blk b1 cs]) (hc : cs.length = 5) (hk : Known l y nm) (hnl : nm.length < 1000000) (hlt : l.length < 1000000)
    (hok : ∀ x nm, lineOf l = some (x, nm) → ∀ w', Fr (fun _ => False) w w' → K (.tuple #[x.v, str nm, .bool true]) w')
    (hbad : lineOf l = none → ∀ w' (x : Cd) nm, Fr (fun _ => False) w w' → K (.tuple #[x.v, str nm, .bool false]) w') :
    ∀ ρ : Env, [0, 2, 6, 15].map ρ = [str l, pt b1 0, pt b4 0, str nm] → F18J6 K ρ [] w2 := by
  intro ρ hρ
  simp only [List.map_cons, List.map_nil, List.cons.injEq, and_true] at hρ
  obtain ⟨e0, e2, e6, e15⟩ := hρ
  unfold F18J6
  simp only [e0, e2, e6, e15]
  repeat (first
    | refine rFA0 ?_
    | refine rExt0 ?_
    | refine rExt1 ?_
    | refine sExt30 ?_
    | refine sExt31 ?_
    | refine sExt2 ?_
    | refine rIfT ?_
    | refine rIfF ?_
    | refine rNot ?_
    | refine rLenB ?_
    | refine sLd hL (i := 0) rfl rfl ?_
    | refine sLd hL (i := 1) rfl rfl ?_
    | refine sLd hL (i := 2) rfl rfl ?_
    | refine sLd hL (i := 3) rfl rfl ?_
    | refine sLd hL (i := 4) rfl rfl ?_
    | refine sLd hL (i := 5) rfl rfl ?_
    | refine sLdN hL (i := 0) rfl rfl ?_
    | refine sLdN hL (i := 1) rfl rfl ?_
    | refine sLdN hL (i := 2) rfl rfl ?_
    | refine sLdN hL (i := 3) rfl rfl ?_
    | refine sLdN hL (i := 4) rfl rfl ?_
    | refine sLdN hL (i := 5) rfl rfl ?_
    | refine sLdS (i := 0) rfl rfl ?_
    | refine sLdS (i := 1) rfl rfl ?_
    | refine sLdS (i := 2) rfl rfl ?_
    | refine sLdS (i := 3) rfl rfl ?_
    | refine sLdS (i := 4) rfl rfl ?_
    | refine sLdS (i := 5) rfl rfl ?_
    | refine rFA ?_)
  refine rright_spec (x := y) (fun w3 f3 => ?_)
  have hL := hL.more f3
  refine rNot <| sIfN (fun hr => ?_) (fun hr => ?_)
  · have hno : lineOf l = none := lineOf_none (fun x hx => by have := hx.1; rw [(hk.says x hx).2, hr] at this; cases this) (fun x n hx => by have := calls_right hx; rw [(hk.calls x n hx).1, hr] at this; cases this)
    exact rread_bad hL (i := 1) rfl hc (fun w' f => hbad hno w' cd0 [] f)
  have hrg := right_regs hr
  have hrn := right_n hr
  refine rSNe (m := []) <| sIfNS (fun hnm => ?_) (fun hnm => ?_)
  · repeat (first
      | refine rFA0 ?_
      | refine rExt0 ?_
      | refine rExt1 ?_
      | refine sExt30 ?_
      | refine sExt31 ?_
      | refine sExt2 ?_
      | refine rIfT ?_
      | refine rIfF ?_
      | refine rNot ?_
      | refine rLenB ?_
      | refine sLd hL (i := 0) rfl rfl ?_
      | refine sLd hL (i := 1) rfl rfl ?_
      | refine sLd hL (i := 2) rfl rfl ?_
      | refine sLd hL (i := 3) rfl rfl ?_
      | refine sLd hL (i := 4) rfl rfl ?_
      | refine sLd hL (i := 5) rfl rfl ?_
      | refine sLdN hL (i := 0) rfl rfl ?_
      | refine sLdN hL (i := 1) rfl rfl ?_
      | refine sLdN hL (i := 2) rfl rfl ?_
      | refine sLdN hL (i := 3) rfl rfl ?_
      | refine sLdN hL (i := 4) rfl rfl ?_
      | refine sLdN hL (i := 5) rfl rfl ?_
      | refine sLdS (i := 0) rfl rfl ?_
      | refine sLdS (i := 1) rfl rfl ?_
      | refine sLdS (i := 2) rfl rfl ?_
      | refine sLdS (i := 3) rfl rfl ?_
      | refine sLdS (i := 4) rfl rfl ?_
      | refine sLdS (i := 5) rfl rfl ?_
      | refine rFA ?_)
    refine rtext_spec (x := y) (fun r h => by have := hrg r h; omega) (by omega) (by omega) (fun w4 f4 => ?_)
    have hL := hL.more f4
    obtain ⟨k1, k2⟩ := known_name hk hr hnm
    have htl : (txt y).length ≠ 0 := by rw [txt_parts, List.length_append]; have := opName_ne (right_op hr).1 (right_op hr).2; have := List.length_pos_iff.2 this; omega
    have htl2 : (txt y).length < 1000000 := by
      have := flat_le (txtWords_small hr)
      have h5 := txtWords_len y
      unfold txt
      cases hw : txtWords y with
      | nil => exact absurd hw (txtWords_ne y)
      | cons a r =>
        rw [hw] at this h5
        rw [Lib.join_cons, List.length_append, joinTail_len]
        rw [List.flatten_cons, List.length_append, List.length_cons] at this
        rw [List.length_cons] at h5
        simp only [List.length_singleton]
        omega
    refine sDraw hL ?_
    refine sLdSN (i := 0) rfl rfl ?_
    refine rLenB <| rGt <| sIfD (fun _ => ?_) (fun h => absurd h (by omega))
    refine rLenB <| rSub (by omega) (by omega) ?_
    have e1 : ((txt y).length : Int) - 1 = (((txt y).length - 1 : Nat) : Int) := by omega
    rw [e1]
    refine rSlStrHi (by omega) ?_
    refine sAddS (by rw [List.length_take]; omega) ?_
    refine rSEq ?_
    refine ⟨?_, trivial⟩
    by_cases e : (txt y).take ((txt y).length - 1) ++ nm = l
    · have eb : ((txt y).take ((txt y).length - 1) ++ nm == l) = true := by simpa using e
      rw [eb]
      exact cd_out hL.drew (i := 1) rfl hc (fun w' f => hok y nm (k1 e) w' f)
    · have eb : ((txt y).take ((txt y).length - 1) ++ nm == l) = false := by simpa using e
      rw [eb]
      exact cd_out hL.drew (i := 1) rfl hc (fun w' f => hbad (k2 e) w' y nm f)
  · refine ⟨fun W => Lx (fun _ => False) w W [.blk b4 y.cs, .blk b1 cs], fun W => Cs W b4 y.cs, hL.drew, ?_⟩
    refine sLdSN (i := 0) rfl rfl ?_
    refine (show vLdS (fun W => Lx (fun _ => False) w W [.blk b4 y.cs, .blk b1 cs] ∨ Cs W b4 y.cs) (.agg 5) (pt b4 0) _ from ⟨y.cs, rfl, fun W hW j v hj => ?_, ?_⟩)
    · rw [addr_add]
      have hc4 : Cs W b4 y.cs := hW.elim (fun h => h.get (i := 0) rfl) id
      exact Cs.cell (o := 0 + j) hc4 (by rw [Nat.zero_add]; exact hj)
    refine ⟨?_, trivial⟩
    refine rtext_spec (x := y) (fun r h => by have := hrg r h; omega) (by omega) (by omega) (fun w4 f4 => ?_)
    have hL := hL.drew.more f4
    refine ⟨hL, ?_⟩
    refine rSEq ?_
    refine ⟨?_, trivial⟩
    have hst : ∀ (q : Bool), (∀ w', Fr (fun _ => False) w w' → K (.tuple #[y.v, str [], .bool q]) w') → vSt (some 5) (pt b1 0) y.v w4 fun w' => Cs w' b4 y.cs ∧ leaveV [] w' fun W => vLd (.agg 5) (pt b1 0) W fun r => K (.tuple #[r, str [], .bool q]) W := by
      intro q hK
      refine sStN hL (i := 1) rfl rfl (by simp; omega) (by intro x hx; simp at hx; rcases hx with rfl | rfl | rfl | rfl | rfl <;> rfl) (fun w' hL' => ?_)
      refine ⟨hL'.get (i := 0) rfl, ?_⟩
      show vLd (.agg 5) (pt b1 0) w' fun r => K (.tuple #[r, str [], .bool q]) w'
      refine sLdN hL' (i := 1) rfl (by simp [spl, hc]) ?_
      have e : spl cs 0 y.cs.toArray.toList = y.cs := by simp [spl, hc]
      show K (.tuple #[.agg (spl cs 0 y.cs.toArray.toList).toArray, str [], .bool q]) w'
      rw [e]
      exact hK w' hL'.fr
    by_cases e : txt y = l
    · have eb : (txt y == l) = true := by simpa using e
      rw [eb]
      exact hst true (fun w' f => hok y [] (lineOf_says ⟨hr, e⟩) w' f)
    · have eb : (txt y == l) = false := by simpa using e
      rw [eb]
      refine hst false (fun w' f => hbad (lineOf_none (fun x hx => e ?_) (fun x n hx => (hk.calls x n hx).2.2 hnm)) w' y [] f)
      rw [← (hk.says x hx).2]; exact hx.2
end

theorem b23_1' : (1 : Nat) = 1 := rfl

def cdR (o : Int) (rs : List Int) (n : Int) : Cd := ⟨o, rs.getD 0 0, rs.getD 1 0, rs.getD 2 0, n⟩

theorem cdR_regs {o : Int} {rs : List Int} {R : Nat} {n : Int} (hR : shRegs o = R) (hR3 : R ≤ 3) (hl : rs.length = R) : regsOf (cdR o rs n) = rs ∧ restZ (cdR o rs n) := by
  have := mkC_regs (op := o) hR hR3 hl
  exact this


theorem b23m : (fun (K : Value → Prop) => vBuild Tryd.prog 23 [(0, it (-1))] K) = fun K => ((1 : Nat) = 1 ∧ K (.agg #[it (-1), it 0, it 0, it 0, it 0])) := by kernel_rfl
theorem build23m {K : Value → Prop} (k : K (.agg #[it (-1), it 0, it 0, it 0, it 0])) : vBuild Tryd.prog 23 [(0, it (-1))] K := by
  have := congrFun b23m K
  exact this ▸ ⟨rfl, k⟩

/-- gatehouseref02.Parse -/
theorem rparse_spec {w : World} {l : List UInt8} {K : Value → World → Prop} (hl : l.length < 1000000)
    (hok : ∀ x nm, lineOf l = some (x, nm) → ∀ w', Fr (fun _ => False) w w' → K (.tuple #[x.v, str nm, .bool true]) w')
    (hbad : lineOf l = none → ∀ w' (x : Cd) nm, Fr (fun _ => False) w w' → K (.tuple #[x.v, str nm, .bool false]) w') : CallK Tryd.prog 18 #[str l] w K := by
  apply Ret.call
  apply F18_ok
  unfold F18
  have hL := Lx.start (fun _ => False) w
  refine sAlloc zc23 hL (fun w1 b1 hL => ?_)
  refine words_spec 32 (by decide) hl (fun w2 v2 bl hr ho f2 => ?_)
  have hL := hL.add (a := .row v2 ((parts 32 l).map str) bl) f2 hr ho
  obtain ⟨p0, ps, hp⟩ : ∃ p0 ps, parts 32 l = p0 :: ps := by
    cases h : parts 32 l with
    | nil => exact absurd h (parts_ne _ _)
    | cons a b => exact ⟨a, b, rfl⟩
  have hplen := fun p => parts_small (c := 32) (l := l) (p := p)
  have hnum := parts_len (c := 32) l
  refine build23m ?_
  refine sAlloc zc23 hL (fun w3 b4 hL => ?_)
  refine sStN hL (i := 0) rfl rfl (by simp) (by intro x hx; simp at hx; rcases hx with rfl | rfl <;> rfl) (fun w4 hL => ?_)
  have hL : Lx (fun _ => False) w w4 [.blk b4 (cdR (-1) [] 0).cs, .row v2 ((parts 32 l).map str) bl, .blk b1 [it 0, it 0, it 0, it 0, it 0]] := hL
  refine ⟨fun vs ds W => ds = [] ∧ ∃ (i : Nat) (o : Int), i ≤ 27 ∧ vs = [str l, pt b1 0, v2, pt b4 0, it i] ∧ ((0 ≤ o ∧ o < i ∧ opName o = p0) ∨ (o = -1 ∧ ∀ j : Int, 0 ≤ j → j < i → opName j ≠ p0)) ∧
      Lx (fun _ => False) w W [.blk b4 (cdR o [] 0).cs, .row v2 ((parts 32 l).map str) bl, .blk b1 [it 0, it 0, it 0, it 0, it 0]],
    fun vs _ _ => match vs with | [_, _, _, _, .int _ i] => 27 - i.toNat | _ => 0, ⟨rfl, 0, -1, by omega, rfl, .inr ⟨rfl, fun j h1 h2 => by omega⟩, hL⟩, ?_⟩
  rintro ρ ds W ⟨rfl, i, o, hi, hρ, ho, hL⟩
  rw [hρ]
  simp only [List.map_cons, List.map_nil, List.cons.injEq, and_true] at hρ
  obtain ⟨e0, e2, e5, e6, e7⟩ := hρ
  unfold F18L1
  simp only [e0, e2, e5, e6, e7]
  refine rLe <| sIfD (fun hle => ?_) (fun hgt => ?_)
  · refine sDraw hL ?_
    refine sIdxS hL (i := 1) (j := 0) rfl (x := str p0) (by rw [hp]; rfl) ?_
    refine ⟨name_spec ?_, trivial⟩
    have hL := hL.drew
    refine ⟨hL, ?_⟩
    refine rSEq <| sIfS (fun e => ?_) (fun e => ?_)
    · repeat (first
        | refine rFA0 ?_
        | refine rExt0 ?_
        | refine rExt1 ?_
        | refine sExt30 ?_
        | refine sExt31 ?_
        | refine sExt2 ?_
        | refine rIfT ?_
        | refine rIfF ?_
        | refine rNot ?_
        | refine rLenB ?_
        | refine sLd hL (i := 0) rfl rfl ?_
        | refine sLd hL (i := 1) rfl rfl ?_
        | refine sLd hL (i := 2) rfl rfl ?_
        | refine sLd hL (i := 3) rfl rfl ?_
        | refine sLd hL (i := 4) rfl rfl ?_
        | refine sLd hL (i := 5) rfl rfl ?_
        | refine sLdN hL (i := 0) rfl rfl ?_
        | refine sLdN hL (i := 1) rfl rfl ?_
        | refine sLdN hL (i := 2) rfl rfl ?_
        | refine sLdN hL (i := 3) rfl rfl ?_
        | refine sLdN hL (i := 4) rfl rfl ?_
        | refine sLdN hL (i := 5) rfl rfl ?_
        | refine sLdS (i := 0) rfl rfl ?_
        | refine sLdS (i := 1) rfl rfl ?_
        | refine sLdS (i := 2) rfl rfl ?_
        | refine sLdS (i := 3) rfl rfl ?_
        | refine sLdS (i := 4) rfl rfl ?_
        | refine sLdS (i := 5) rfl rfl ?_
        | refine rFA ?_)
      refine sSt hL (i := 0) rfl (by simp) rfl (by intro c h; cases h) (fun w6 hL => ?_)
      refine rAdd (by omega) (by omega) ⟨⟨by trivial, i + 1, i, by omega, by simp, .inl ⟨by omega, by omega, e⟩, hL⟩, by simp; omega⟩
    · refine rAdd (by omega) (by omega) ⟨⟨by trivial, i + 1, o, by omega, by simp, ?_, hL⟩, by simp; omega⟩
      rcases ho with ⟨h1, h2, h3⟩ | ⟨h1, h2⟩
      · exact .inl ⟨h1, by omega, h3⟩
      · refine .inr ⟨h1, fun j h3 h4 => ?_⟩
        by_cases ej : j = i
        · rw [ej]; exact e
        · exact h2 j h3 (by omega)
  have hi : i = 27 := by omega
  subst hi
  have ho : IsOp p0 o := ho
  have hopb : ∀ x num, Reads l x num → x.op = o ∧ 0 ≤ o ∧ o < 27 := by
    intro x num hx
    have hw := hx.words
    rw [hp] at hw
    have e0 : p0 = opName x.op := by injection hw
    rcases ho with ⟨h1, h2, h3⟩ | ⟨h1, h2⟩
    · exact ⟨opName_inj hx.op ⟨h1, h2⟩ (by rw [h3, e0]), h1, h2⟩
    · exact absurd e0.symm (h2 x.op hx.op.1 hx.op.2)
  repeat (first
    | refine rFA0 ?_
    | refine rExt0 ?_
    | refine rExt1 ?_
    | refine sExt30 ?_
    | refine sExt31 ?_
    | refine sExt2 ?_
    | refine rIfT ?_
    | refine rIfF ?_
    | refine rNot ?_
    | refine rLenB ?_
    | refine sLd hL (i := 0) rfl rfl ?_
    | refine sLd hL (i := 1) rfl rfl ?_
    | refine sLd hL (i := 2) rfl rfl ?_
    | refine sLd hL (i := 3) rfl rfl ?_
    | refine sLd hL (i := 4) rfl rfl ?_
    | refine sLd hL (i := 5) rfl rfl ?_
    | refine sLdN hL (i := 0) rfl rfl ?_
    | refine sLdN hL (i := 1) rfl rfl ?_
    | refine sLdN hL (i := 2) rfl rfl ?_
    | refine sLdN hL (i := 3) rfl rfl ?_
    | refine sLdN hL (i := 4) rfl rfl ?_
    | refine sLdN hL (i := 5) rfl rfl ?_
    | refine sLdS (i := 0) rfl rfl ?_
    | refine sLdS (i := 1) rfl rfl ?_
    | refine sLdS (i := 2) rfl rfl ?_
    | refine sLdS (i := 3) rfl rfl ?_
    | refine sLdS (i := 4) rfl rfl ?_
    | refine sLdS (i := 5) rfl rfl ?_
    | refine rFA ?_)
  refine rLt <| sIfD (fun hneg => ?_) (fun hpos => ?_)
  · refine read_bad hL (i := 2) rfl rfl (fun w' f => hbad (lineOf_noReads fun x num hx => ?_) w' cd0 [] f)
    have := (hopb x num hx).2.1
    simp only [cdR] at hneg; omega
  have hop : 0 ≤ o ∧ o < 27 ∧ opName o = p0 := by
    rcases ho with h | ⟨rfl, _⟩
    · exact h
    · exact absurd (show (cdR (-1) [] 0).op < 0 by decide) hpos
  repeat (first
    | refine rFA0 ?_
    | refine rExt0 ?_
    | refine rExt1 ?_
    | refine sExt30 ?_
    | refine sExt31 ?_
    | refine sExt2 ?_
    | refine rIfT ?_
    | refine rIfF ?_
    | refine rNot ?_
    | refine rLenB ?_
    | refine sLd hL (i := 0) rfl rfl ?_
    | refine sLd hL (i := 1) rfl rfl ?_
    | refine sLd hL (i := 2) rfl rfl ?_
    | refine sLd hL (i := 3) rfl rfl ?_
    | refine sLd hL (i := 4) rfl rfl ?_
    | refine sLd hL (i := 5) rfl rfl ?_
    | refine sLdN hL (i := 0) rfl rfl ?_
    | refine sLdN hL (i := 1) rfl rfl ?_
    | refine sLdN hL (i := 2) rfl rfl ?_
    | refine sLdN hL (i := 3) rfl rfl ?_
    | refine sLdN hL (i := 4) rfl rfl ?_
    | refine sLdN hL (i := 5) rfl rfl ?_
    | refine sLdS (i := 0) rfl rfl ?_
    | refine sLdS (i := 1) rfl rfl ?_
    | refine sLdS (i := 2) rfl rfl ?_
    | refine sLdS (i := 3) rfl rfl ?_
    | refine sLdS (i := 4) rfl rfl ?_
    | refine sLdS (i := 5) rfl rfl ?_
    | refine rFA ?_)
  refine rshape_spec ?_
  obtain ⟨R, hR, hR3⟩ : ∃ R : Nat, shRegs o = R ∧ R ≤ 3 := by
    rcases shRegs_cases o with e | e | e | e
    · exact ⟨0, e, by omega⟩
    · exact ⟨1, e, by omega⟩
    · exact ⟨2, e, by omega⟩
    · exact ⟨3, e, by omega⟩
  have hregl : ∀ x : Cd, x.op = o → (regsOf x).length = R := fun x e => by unfold regsOf; rw [e, hR]; simp; omega
  -- behind the shape: the words' number, the registers, the number
  have main4 : ∀ (want : Nat) (q : Bool), (q = true ↔ shNum o ≠ 0) → want = 1 + R + (if shNum o = 0 then 0 else 1) → ∀ ρ : Env, [0, 2, 5, 6, 8, 9, 10, 11].map ρ = [str l, pt b1 0, v2, pt b4 0, it (rSh o), it R, .bool q, it want] → F18J4 K ρ [] W := by
    intro want q hq hwant ρ hρ
    simp only [List.map_cons, List.map_nil, List.cons.injEq, and_true] at hρ
    obtain ⟨e0, e2, e5, e6, e8, e9, e10, e11⟩ := hρ
    unfold F18J4
    simp only [e0, e2, e5, e6, e8, e9, e10, e11]
    refine sLen hL (i := 1) rfl <| rNe <| sIfNE (fun hne => ?_) (fun heq => ?_)
    · refine read_bad hL (i := 2) rfl rfl (fun w' f => hbad (lineOf_noReads fun x num hx => ?_) w' cd0 [] f)
      obtain ⟨e, _, _⟩ := hopb x num hx
      have hw := congrArg List.length hx.words
      rw [List.length_append, List.length_cons, List.length_map, hregl x e, e] at hw
      rw [List.length_map] at hne
      by_cases h0 : shNum o = 0
      · rw [if_pos h0] at hw hwant; simp at hw; omega
      · rw [if_neg h0] at hw hwant; simp at hw; omega
    rw [List.length_map] at heq
    have hpsl : ps.length = R + (if shNum o = 0 then 0 else 1) := by
      rw [hp, List.length_cons] at heq
      split at hwant <;> simp [*] <;> omega
    refine ⟨fun vs ds W => ds = [] ∧ ∃ rs : List Int, rs.length ≤ R ∧ vs = [str l, pt b1 0, v2, pt b4 0, it (rSh o), it R, .bool q, it want, it rs.length] ∧ (∀ (j : Nat) r, rs[j]? = some r → ∃ p, ps[j]? = some p ∧ regR p = some r) ∧
        Lx (fun _ => False) w W [.blk b4 (cdR o rs 0).cs, .row v2 ((parts 32 l).map str) bl, .blk b1 [it 0, it 0, it 0, it 0, it 0]],
      fun vs _ _ => match vs with | [_, _, _, _, _, _, _, _, .int _ i] => R - i.toNat | _ => 0, ⟨rfl, [], by simp, by simp, by simp, hL⟩, ?_⟩
    rintro ρ ds W ⟨rfl, rs, hrs, hρ, hrr, hL⟩
    rw [hρ]
    simp only [List.map_cons, List.map_nil, List.cons.injEq, and_true] at hρ
    obtain ⟨e0, e2, e5, e6, e8, e9, e10, e11, e12⟩ := hρ
    unfold F18L2
    simp only [e0, e2, e5, e6, e8, e9, e10, e11, e12]
    refine rLt <| sIfD (fun hlt => ?_) (fun hge => ?_)
    · have hlt : rs.length < R := by omega
      refine rAdd (by omega) (by omega) ?_
      obtain ⟨p, hpj⟩ : ∃ p, ps[rs.length]? = some p := by
        refine ⟨_, List.getElem?_eq_getElem ?_⟩
        split at hpsl <;> omega
      have ej : (1 : Int) + (rs.length : Int) = ((1 + rs.length : Nat) : Int) := by omega
      rw [ej]
      have hpj1 : (parts 32 l)[1 + rs.length]? = some p := by rw [hp, Nat.add_comm, List.getElem?_cons_succ]; exact hpj
      have hpl := hplen p (List.mem_of_getElem? hpj1)
      refine sIdx hL (i := 1) rfl (x := str p) (by rw [List.getElem?_map, hpj1]; rfl) ?_
      refine register_spec (by omega) ?_
      have bad : regR p = none → ∀ x num, ¬ Reads l x num := by
        intro hb x num hx
        obtain ⟨e, _, _⟩ := hopb x num hx
        have hw := hx.words
        rw [hp, List.cons_append] at hw
        have hw := (List.cons.inj hw).2
        have hg := congrArg (·[rs.length]?) hw
        rw [hpj, List.getElem?_append_left (by rw [List.length_map, hregl x e]; exact hlt), List.getElem?_map] at hg
        obtain ⟨r, hr1, hr2⟩ := Option.map_eq_some_iff.1 hg.symm
        have := hx.regs r (List.mem_of_getElem? hr1)
        rw [← hr2, regR_reg this.1 this.2] at hb
        cases hb
      cases hv : regR p with
      | none =>
        repeat (first
          | refine rFA0 ?_
          | refine rExt0 ?_
          | refine rExt1 ?_
          | refine sExt30 ?_
          | refine sExt31 ?_
          | refine sExt2 ?_
          | refine rIfT ?_
          | refine rIfF ?_
          | refine rNot ?_
          | refine rLenB ?_
          | refine sLd hL (i := 0) rfl rfl ?_
          | refine sLd hL (i := 1) rfl rfl ?_
          | refine sLd hL (i := 2) rfl rfl ?_
          | refine sLd hL (i := 3) rfl rfl ?_
          | refine sLd hL (i := 4) rfl rfl ?_
          | refine sLd hL (i := 5) rfl rfl ?_
          | refine sLdN hL (i := 0) rfl rfl ?_
          | refine sLdN hL (i := 1) rfl rfl ?_
          | refine sLdN hL (i := 2) rfl rfl ?_
          | refine sLdN hL (i := 3) rfl rfl ?_
          | refine sLdN hL (i := 4) rfl rfl ?_
          | refine sLdN hL (i := 5) rfl rfl ?_
          | refine sLdS (i := 0) rfl rfl ?_
          | refine sLdS (i := 1) rfl rfl ?_
          | refine sLdS (i := 2) rfl rfl ?_
          | refine sLdS (i := 3) rfl rfl ?_
          | refine sLdS (i := 4) rfl rfl ?_
          | refine sLdS (i := 5) rfl rfl ?_
          | refine rFA ?_)
        exact read_bad hL (i := 2) rfl rfl (fun w' f => hbad (lineOf_noReads (bad hv)) w' cd0 [] f)
      | some n =>
        repeat (first
          | refine rFA0 ?_
          | refine rExt0 ?_
          | refine rExt1 ?_
          | refine sExt30 ?_
          | refine sExt31 ?_
          | refine sExt2 ?_
          | refine rIfT ?_
          | refine rIfF ?_
          | refine rNot ?_
          | refine rLenB ?_
          | refine sLd hL (i := 0) rfl rfl ?_
          | refine sLd hL (i := 1) rfl rfl ?_
          | refine sLd hL (i := 2) rfl rfl ?_
          | refine sLd hL (i := 3) rfl rfl ?_
          | refine sLd hL (i := 4) rfl rfl ?_
          | refine sLd hL (i := 5) rfl rfl ?_
          | refine sLdN hL (i := 0) rfl rfl ?_
          | refine sLdN hL (i := 1) rfl rfl ?_
          | refine sLdN hL (i := 2) rfl rfl ?_
          | refine sLdN hL (i := 3) rfl rfl ?_
          | refine sLdN hL (i := 4) rfl rfl ?_
          | refine sLdN hL (i := 5) rfl rfl ?_
          | refine sLdS (i := 0) rfl rfl ?_
          | refine sLdS (i := 1) rfl rfl ?_
          | refine sLdS (i := 2) rfl rfl ?_
          | refine sLdS (i := 3) rfl rfl ?_
          | refine sLdS (i := 4) rfl rfl ?_
          | refine sLdS (i := 5) rfl rfl ?_
          | refine rFA ?_)
        have hrr' : ∀ (j : Nat) r, (rs ++ [n])[j]? = some r → ∃ p, ps[j]? = some p ∧ regR p = some r := by
          intro j r hj
          by_cases hjl : j < rs.length
          · rw [List.getElem?_append_left hjl] at hj
            exact hrr j r hj
          · rw [List.getElem?_append_right (by omega)] at hj
            have := (List.getElem?_eq_some_iff.1 hj).1
            have hj0 : j = rs.length := by simp at this; omega
            subst hj0
            simp at hj
            exact ⟨p, hpj, by rw [hv, hj]⟩
        refine rEq <| sIfE (fun h => ?_) (fun h => ?_)
        · repeat (first
            | refine rFA0 ?_
            | refine rExt0 ?_
            | refine rExt1 ?_
            | refine sExt30 ?_
            | refine sExt31 ?_
            | refine sExt2 ?_
            | refine rIfT ?_
            | refine rIfF ?_
            | refine rNot ?_
            | refine rLenB ?_
            | refine sLd hL (i := 0) rfl rfl ?_
            | refine sLd hL (i := 1) rfl rfl ?_
            | refine sLd hL (i := 2) rfl rfl ?_
            | refine sLd hL (i := 3) rfl rfl ?_
            | refine sLd hL (i := 4) rfl rfl ?_
            | refine sLd hL (i := 5) rfl rfl ?_
            | refine sLdN hL (i := 0) rfl rfl ?_
            | refine sLdN hL (i := 1) rfl rfl ?_
            | refine sLdN hL (i := 2) rfl rfl ?_
            | refine sLdN hL (i := 3) rfl rfl ?_
            | refine sLdN hL (i := 4) rfl rfl ?_
            | refine sLdN hL (i := 5) rfl rfl ?_
            | refine sLdS (i := 0) rfl rfl ?_
            | refine sLdS (i := 1) rfl rfl ?_
            | refine sLdS (i := 2) rfl rfl ?_
            | refine sLdS (i := 3) rfl rfl ?_
            | refine sLdS (i := 4) rfl rfl ?_
            | refine sLdS (i := 5) rfl rfl ?_
            | refine rFA ?_)
          refine sSt hL (i := 0) rfl (by simp) rfl (by intro c h; cases h) (fun w12 hL => ?_)
          refine rAdd (by omega) (by omega) ⟨⟨by trivial, rs ++ [n], by simp; omega, by simp, hrr', ?_⟩, by simp; omega⟩
          match rs, h with
          | [], _ => exact hL
          | a :: r, h => simp at h; omega
        refine rEq <| sIfE (fun h => ?_) (fun h => ?_)
        · repeat (first
            | refine rFA0 ?_
            | refine rExt0 ?_
            | refine rExt1 ?_
            | refine sExt30 ?_
            | refine sExt31 ?_
            | refine sExt2 ?_
            | refine rIfT ?_
            | refine rIfF ?_
            | refine rNot ?_
            | refine rLenB ?_
            | refine sLd hL (i := 0) rfl rfl ?_
            | refine sLd hL (i := 1) rfl rfl ?_
            | refine sLd hL (i := 2) rfl rfl ?_
            | refine sLd hL (i := 3) rfl rfl ?_
            | refine sLd hL (i := 4) rfl rfl ?_
            | refine sLd hL (i := 5) rfl rfl ?_
            | refine sLdN hL (i := 0) rfl rfl ?_
            | refine sLdN hL (i := 1) rfl rfl ?_
            | refine sLdN hL (i := 2) rfl rfl ?_
            | refine sLdN hL (i := 3) rfl rfl ?_
            | refine sLdN hL (i := 4) rfl rfl ?_
            | refine sLdN hL (i := 5) rfl rfl ?_
            | refine sLdS (i := 0) rfl rfl ?_
            | refine sLdS (i := 1) rfl rfl ?_
            | refine sLdS (i := 2) rfl rfl ?_
            | refine sLdS (i := 3) rfl rfl ?_
            | refine sLdS (i := 4) rfl rfl ?_
            | refine sLdS (i := 5) rfl rfl ?_
            | refine rFA ?_)
          refine sSt hL (i := 0) rfl (by simp) rfl (by intro c h; cases h) (fun w12 hL => ?_)
          refine rAdd (by omega) (by omega) ⟨⟨by trivial, rs ++ [n], by simp; omega, by simp, hrr', ?_⟩, by simp; omega⟩
          match rs, h with
          | [], h => simp at h
          | [a], _ => exact hL
          | a :: b :: r, h => simp at h; omega
        refine rEq <| sIfE (fun h => ?_) (fun h => ?_)
        · repeat (first
            | refine rFA0 ?_
            | refine rExt0 ?_
            | refine rExt1 ?_
            | refine sExt30 ?_
            | refine sExt31 ?_
            | refine sExt2 ?_
            | refine rIfT ?_
            | refine rIfF ?_
            | refine rNot ?_
            | refine rLenB ?_
            | refine sLd hL (i := 0) rfl rfl ?_
            | refine sLd hL (i := 1) rfl rfl ?_
            | refine sLd hL (i := 2) rfl rfl ?_
            | refine sLd hL (i := 3) rfl rfl ?_
            | refine sLd hL (i := 4) rfl rfl ?_
            | refine sLd hL (i := 5) rfl rfl ?_
            | refine sLdN hL (i := 0) rfl rfl ?_
            | refine sLdN hL (i := 1) rfl rfl ?_
            | refine sLdN hL (i := 2) rfl rfl ?_
            | refine sLdN hL (i := 3) rfl rfl ?_
            | refine sLdN hL (i := 4) rfl rfl ?_
            | refine sLdN hL (i := 5) rfl rfl ?_
            | refine sLdS (i := 0) rfl rfl ?_
            | refine sLdS (i := 1) rfl rfl ?_
            | refine sLdS (i := 2) rfl rfl ?_
            | refine sLdS (i := 3) rfl rfl ?_
            | refine sLdS (i := 4) rfl rfl ?_
            | refine sLdS (i := 5) rfl rfl ?_
            | refine rFA ?_)
          refine sSt hL (i := 0) rfl (by simp) rfl (by intro c h; cases h) (fun w12 hL => ?_)
          refine rAdd (by omega) (by omega) ⟨⟨by trivial, rs ++ [n], by simp; omega, by simp, hrr', ?_⟩, by simp; omega⟩
          match rs, h with
          | [], h => simp at h
          | [a], h => simp at h
          | [a, b], _ => exact hL
          | a :: b :: c :: r, h => simp at h; omega
        · omega
    · have hlen : rs.length = R := by omega
      have hcd := fun n => cdR_regs (o := o) (n := n) hR hR3 hlen
      -- what an instruction that reads so has
      have hread : ∀ x num, Reads l x num → x.op = o ∧ regsOf x = rs ∧ (if shNum o = 0 then [] else [num]) = ps.drop R := by
        intro x num hx
        obtain ⟨e, _, _⟩ := hopb x num hx
        have hw := hx.words
        rw [hp, List.cons_append] at hw
        have hw := (List.cons.inj hw).2
        have hxl := hregl x e
        refine ⟨e, ?_, ?_⟩
        · refine List.ext_getElem? fun j => ?_
          by_cases hj : j < R
          · obtain ⟨r, hr1⟩ : ∃ r, (regsOf x)[j]? = some r := ⟨_, List.getElem?_eq_getElem (by omega)⟩
            obtain ⟨r2, hr2⟩ : ∃ r, rs[j]? = some r := ⟨_, List.getElem?_eq_getElem (by omega)⟩
            obtain ⟨p, h1, h2⟩ := hrr j r2 hr2
            have hg := congrArg (·[j]?) hw
            rw [h1, List.getElem?_append_left (by rw [List.length_map, hxl]; exact hj), List.getElem?_map, hr1] at hg
            have hpe : p = regT r := by simpa using hg
            have := hx.regs r (List.mem_of_getElem? hr1)
            rw [hpe, regR_reg this.1 this.2] at h2
            rw [hr1, hr2, h2]
          · rw [List.getElem?_eq_none (by omega), List.getElem?_eq_none (by omega)]
        · rw [hw, List.drop_left' (by rw [List.length_map, hxl]), e]
      refine sJoin ?_
      have hrb : ∀ r ∈ rs, -1000000 < r ∧ r < 1000000 := by
        intro r hr
        obtain ⟨j, hj⟩ := List.mem_iff_getElem?.1 hr
        obtain ⟨p, _, h2⟩ := hrr j r hj
        exact regR_bound h2
      refine sIf (fun h => ?_) (fun h => ?_)
      · have h0 := hq.1 h
        rw [if_neg h0] at hpsl hwant
        have hlt : R < ps.length := by omega
        obtain ⟨num, hn1⟩ : ∃ num, ps[R]? = some num := ⟨_, List.getElem?_eq_getElem hlt⟩
        have hn2 : ps.drop R = [num] := by
          rw [List.drop_eq_getElem_cons hlt, List.drop_of_length_le (by omega)]
          rw [List.getElem?_eq_getElem hlt] at hn1
          rw [Option.some.inj hn1]
        have hnl : (parts 32 l)[want - 1]? = some num := by
          have : want - 1 = R + 1 := by omega
          rw [this, hp, List.getElem?_cons_succ]; exact hn1
        have hnl2 := hplen num (List.mem_of_getElem? hnl)
        have ew : (want : Int) - 1 = ((want - 1 : Nat) : Int) := by omega
        have hlast : ∀ {W : World} {L : List As} {K : Value → Prop}, Lx (fun _ => False) w W L → L[1]? = some (.row v2 ((parts 32 l).map str) bl) → K (str num) → vBin (.int .i64) .sub (it want) (it 1) fun v108 => vIA (.slice 1) v2 v108 fun v109 => vLd .one v109 W K := by
          intro W L K hL h1 hK
          refine rSub (by omega) (by omega) ?_
          rw [ew]
          exact sIdx hL h1 (x := str num) (by rw [List.getElem?_map, hnl]; rfl) hK
        refine hlast hL rfl ?_
        refine value_spec (by omega) ?_
        have knumS : ∀ x, Says l x → num = Lib.itoa x.n ∧ regsOf x = rs ∧ x.op = o := by
          intro x hx
          have hrd := says_reads hx
          obtain ⟨e1, e2, e3⟩ := hread _ _ hrd
          have e1 : x.op = o := e1
          rw [if_neg h0, hn2, if_neg (by rw [e1]; exact h0)] at e3
          exact ⟨by simpa using e3.symm, e2, e1⟩
        have knumC : ∀ x n, Calls l x n → num = n ∧ regsOf x = rs ∧ x.op = o := by
          intro x n hx
          obtain ⟨e1, e2, e3⟩ := hread _ _ hx.1
          rw [if_neg h0, hn2] at e3
          exact ⟨by simpa using e3.symm, e2, e1⟩
        cases hv : valR num with
        | some n =>
          repeat (first
            | refine rFA0 ?_
            | refine rExt0 ?_
            | refine rExt1 ?_
            | refine sExt30 ?_
            | refine sExt31 ?_
            | refine sExt2 ?_
            | refine rIfT ?_
            | refine rIfF ?_
            | refine rNot ?_
            | refine rLenB ?_
            | refine sLd hL (i := 0) rfl rfl ?_
            | refine sLd hL (i := 1) rfl rfl ?_
            | refine sLd hL (i := 2) rfl rfl ?_
            | refine sLd hL (i := 3) rfl rfl ?_
            | refine sLd hL (i := 4) rfl rfl ?_
            | refine sLd hL (i := 5) rfl rfl ?_
            | refine sLdN hL (i := 0) rfl rfl ?_
            | refine sLdN hL (i := 1) rfl rfl ?_
            | refine sLdN hL (i := 2) rfl rfl ?_
            | refine sLdN hL (i := 3) rfl rfl ?_
            | refine sLdN hL (i := 4) rfl rfl ?_
            | refine sLdN hL (i := 5) rfl rfl ?_
            | refine sLdS (i := 0) rfl rfl ?_
            | refine sLdS (i := 1) rfl rfl ?_
            | refine sLdS (i := 2) rfl rfl ?_
            | refine sLdS (i := 3) rfl rfl ?_
            | refine sLdS (i := 4) rfl rfl ?_
            | refine sLdS (i := 5) rfl rfl ?_
            | refine rFA ?_)
          refine sSt hL (i := 0) rfl (by simp) rfl (by intro c h; cases h) (fun w12 hL => ?_)
          refine rNot <| rIfF ?_
          have hL := hL.sub (L' := [.blk b4 (cdR o rs n).cs, .blk b1 [it 0, it 0, it 0, it 0, it 0]]) (List.Sublist.cons_cons _ (List.Sublist.cons _ (List.Sublist.refl _)))
          refine rparse_end hL rfl ⟨fun x hx => ⟨rfl, ?_⟩, fun x m hx => ?_, fun h => absurd rfl h, valR_bound hv⟩ (by simp) hl hok hbad
          · obtain ⟨e1, e2, e3⟩ := knumS x hx
            have hb := right_n hx.1
            rw [e1, valR_itoa (by omega) (by omega)] at hv
            exact cd_eq e3 (by rw [e2, (hcd n).1]) ((right_iff x).1 hx.1).2.2.2 (hcd n).2 (by injection hv)
          · obtain ⟨e1, _, _⟩ := knumC x m hx
            rw [e1, valR_name hx.2.2] at hv
            cases hv
        | none =>
          repeat (first
            | refine rFA0 ?_
            | refine rExt0 ?_
            | refine rExt1 ?_
            | refine sExt30 ?_
            | refine sExt31 ?_
            | refine sExt2 ?_
            | refine rIfT ?_
            | refine rIfF ?_
            | refine rNot ?_
            | refine rLenB ?_
            | refine sLd hL (i := 0) rfl rfl ?_
            | refine sLd hL (i := 1) rfl rfl ?_
            | refine sLd hL (i := 2) rfl rfl ?_
            | refine sLd hL (i := 3) rfl rfl ?_
            | refine sLd hL (i := 4) rfl rfl ?_
            | refine sLd hL (i := 5) rfl rfl ?_
            | refine sLdN hL (i := 0) rfl rfl ?_
            | refine sLdN hL (i := 1) rfl rfl ?_
            | refine sLdN hL (i := 2) rfl rfl ?_
            | refine sLdN hL (i := 3) rfl rfl ?_
            | refine sLdN hL (i := 4) rfl rfl ?_
            | refine sLdN hL (i := 5) rfl rfl ?_
            | refine sLdS (i := 0) rfl rfl ?_
            | refine sLdS (i := 1) rfl rfl ?_
            | refine sLdS (i := 2) rfl rfl ?_
            | refine sLdS (i := 3) rfl rfl ?_
            | refine sLdS (i := 4) rfl rfl ?_
            | refine sLdS (i := 5) rfl rfl ?_
            | refine rFA ?_)
          refine sSt hL (i := 0) rfl (by simp) rfl (by intro c h; cases h) (fun w12 hL => ?_)
          refine rNot <| rIfT ?_
          have hL : Lx (fun _ => False) w w12 [.blk b4 (cdR o rs 0).cs, .row v2 ((parts 32 l).map str) bl, .blk b1 [it 0, it 0, it 0, it 0, it 0]] := hL
          have hnoS : ∀ x, ¬ Says l x := fun x hx => by
            obtain ⟨e1, _, _⟩ := knumS x hx
            have hb := right_n hx.1
            rw [e1, valR_itoa (by omega) (by omega)] at hv
            cases hv
          have hsh : shNum o = 3 ↔ rSh o = 5 ∨ rSh o = 6 := by
            rcases shapes o with ⟨a, b, c⟩ | ⟨a, b, c⟩ | ⟨a, b, c⟩ | ⟨a, b, c⟩ | ⟨a, b, c⟩ | ⟨a, b, c⟩ | ⟨a, b, c⟩ <;> omega
          have named : shNum o = 3 → vBin (.int .i64) .sub (it want) (it 1) fun v127 => vIA (.slice 1) v2 v127 fun v128 => vLd .one v128 w12 fun v129 => CallK Tryd.prog 39 #[v129] w12 fun v130 w_18 => vUn .not v130 fun v131 => vBool v131 fun c_12 => if c_12 = true then
              (vBuild Tryd.prog 23 [] fun v133_2 => vSt (some 5) (pt b1 0) v133_2 w_18 fun w_19 => leaveV [] w_19 fun W => vLd (.agg 5) (pt b1 0) W fun r_5 => K (.tuple #[r_5, str [], .bool false]) W)
              else vBin (.int .i64) .sub (it want) (it 1) fun v136 => vIA (.slice 1) v2 v136 fun v137 => vLd .one v137 w_18 fun v138 => ∀ ρ : Env, [0, 2, 6, 15].map ρ = [str l, pt b1 0, pt b4 0, v138] → F18J6 K ρ [] w_18 := by
            intro h3
            refine hlast hL rfl ?_
            refine named_spec (by omega) ?_
            refine rNot <| sIfN (fun h4 => ?_) (fun h4 => ?_)
            · refine read_bad hL (i := 2) rfl rfl (fun w' f => hbad (lineOf_none hnoS fun x m hx => ?_) w' cd0 [] f)
              have := hx.2.2
              rw [← (knumC x m hx).1, h4] at this
              cases this
            · refine hlast hL rfl ?_
              have hL := hL.sub (L' := [.blk b4 (cdR o rs 0).cs, .blk b1 [it 0, it 0, it 0, it 0, it 0]]) (List.Sublist.cons_cons _ (List.Sublist.cons _ (List.Sublist.refl _)))
              refine rparse_end hL rfl ⟨fun x hx => absurd hx (hnoS x), fun x m hx => ?_, fun _ => ⟨h4, h3, rfl⟩, (show (-1000000 : Int) < 0 by decide), (show (0 : Int) < 1000000 by decide)⟩ (by omega) hl hok hbad
              obtain ⟨e1, e2, e3⟩ := knumC x m hx
              exact ⟨cd_eq e3 (by rw [e2, (hcd 0).1]) hx.1.rest (hcd 0).2 hx.1.n, e1.symm, by rw [e1]; exact name_ne hx.2.2⟩
          refine rNe <| sIfNE (fun h5 => ?_) (fun h5 => ?_)
          · refine rNe <| sIfNE (fun h6 => ?_) (fun h6 => ?_)
            · refine read_bad hL (i := 2) rfl rfl (fun w' f => hbad (lineOf_none hnoS fun x m hx => ?_) w' cd0 [] f)
              have := hx.2.1
              rw [(knumC x m hx).2.2] at this
              rcases hsh.1 this with h | h
              · exact h5 h
              · exact h6 h
            · exact named (hsh.2 (.inr h6))
          · exact named (hsh.2 (.inl h5))
      · have h0 : shNum o = 0 := Decidable.byContradiction fun hc => by rw [hq.2 hc] at h; cases h
        have hL := hL.sub (L' := [.blk b4 (cdR o rs 0).cs, .blk b1 [it 0, it 0, it 0, it 0, it 0]]) (List.Sublist.cons_cons _ (List.Sublist.cons _ (List.Sublist.refl _)))
        refine rparse_end hL rfl ⟨fun x hx => ⟨rfl, ?_⟩, fun x m hx => ?_, fun h => absurd rfl h, (show (-1000000 : Int) < 0 by decide), (show (0 : Int) < 1000000 by decide)⟩ (by simp) hl hok hbad
        · obtain ⟨e1, e2, _⟩ := hread _ _ (says_reads hx)
          have e1 : x.op = o := e1
          exact cd_eq e1 (by rw [show regsOf x = rs from e2, (hcd 0).1]) ((right_iff x).1 hx.1).2.2.2 (hcd 0).2 (says_n hx (by rw [e1]; exact h0))
        · obtain ⟨e1, _, _⟩ := hread _ _ hx.1
          have := hx.2.1
          rw [e1] at this
          omega
  -- the number of registers, out of the shape
  have main2 : ∀ ρ : Env, [0, 2, 5, 6, 8, 9].map ρ = [str l, pt b1 0, v2, pt b4 0, it (rSh o), it R] → F18J2 K ρ [] W := by
    intro ρ hρ
    simp only [List.map_cons, List.map_nil, List.cons.injEq, and_true] at hρ
    obtain ⟨e0, e2, e5, e6, e8, e9⟩ := hρ
    unfold F18J2
    simp only [e0, e2, e5, e6, e8, e9]
    have hs := shapes o
    have e1 : ((1 : Int) + R) + 1 = ((1 + R + 1 : Nat) : Int) := by omega
    have e2 : (1 : Int) + R = ((1 + R : Nat) : Int) := by omega
    have one : shNum o ≠ 0 → joinF [0, 2, 5, 6, 8, 9, 10, 11] (fun J4 => vBin (.int .i64) .add (it (1 + (R : Int))) (it 1) fun v68 => J4 [str l, pt b1 0, v2, pt b4 0, it (rSh o), it R, .bool true, v68] [] W) (F18J4 K) := by
      intro h0
      refine sJoin <| rAdd (by omega) (by omega) ?_
      rw [e1]
      exact main4 (1 + R + 1) true ⟨fun _ => h0, fun _ => rfl⟩ (by rw [if_neg h0])
    refine rEq <| sIfE (fun h1 => ?_) (fun h1 => ?_)
    · exact rAdd (by omega) (by omega) (one (by omega))
    refine rEq <| sIfE (fun h4 => ?_) (fun h4 => ?_)
    · exact rAdd (by omega) (by omega) (one (by omega))
    refine rEq <| sIfE (fun h5 => ?_) (fun h5 => ?_)
    · exact rAdd (by omega) (by omega) (one (by omega))
    refine rEq <| rAdd (by omega) (by omega) ?_
    refine sJoin ?_
    refine sIfE (fun h6 => ?_) (fun h6 => ?_)
    · refine rAdd (by omega) (by omega) ?_
      rw [e1]
      have h0 : shNum o ≠ 0 := by omega
      exact main4 (1 + R + 1) (rSh o == 6) ⟨fun _ => h0, fun _ => by simpa using h6⟩ (by rw [if_neg h0])
    · rw [e2]
      have h0 : shNum o = 0 := by omega
      exact main4 (1 + R) (rSh o == 6) ⟨fun h => absurd (by simpa using h) h6, fun h => absurd h0 h⟩ (by rw [if_pos h0, Nat.add_zero])
  refine sJoin ?_
  have hs := shapes o
  have eo : (cdR o [] 0).op = o := rfl
  rw [eo]
  refine joinOne (L := [str l, pt b1 0, v2, pt b4 0, it (rSh o), it 0, it (rSh o), .bool (decide (rSh o = 1) || decide (rSh o = 6))]) (ds := []) (w := W) ?_ ?_
  · refine rEq <| rIf (fun h => ⟨by simp at h; simp [h], rfl, rfl⟩) (fun h => rEq ⟨by simp at h; simp [h]; rfl, rfl, rfl⟩)
  intro ρ hρ
  simp only [List.map_cons, List.map_nil, List.cons.injEq, and_true] at hρ
  obtain ⟨e0, e2, e5, e6, e8, e9, e41, e42⟩ := hρ
  unfold F18J9
  simp only [e0, e2, e5, e6, e8, e9, e41, e42]
  refine sIf (fun h => ?_) (fun h => ?_)
  · have h : rSh o = 1 ∨ rSh o = 6 := by simpa using h
    have : R = 1 := by omega
    subst this
    exact main2
  have h : ¬ (rSh o = 1 ∨ rSh o = 6) := by simpa using h
  have two : R = 2 → ∀ ρ : Env, [0, 2, 5, 6, 8, 9].map ρ = [str l, pt b1 0, v2, pt b4 0, it (rSh o), it 2] → F18J2 K ρ [] W := by
    intro h2; subst h2; exact main2
  have three : R = 3 → ∀ ρ : Env, [0, 2, 5, 6, 8, 9].map ρ = [str l, pt b1 0, v2, pt b4 0, it (rSh o), it 3] → F18J2 K ρ [] W := by
    intro h2; subst h2; exact main2
  have zero : R = 0 → ∀ ρ : Env, [0, 2, 5, 6, 8, 9].map ρ = [str l, pt b1 0, v2, pt b4 0, it (rSh o), it 0] → F18J2 K ρ [] W := by
    intro h2; subst h2; exact main2
  refine rEq <| sIfE (fun h2 => ?_) (fun h2 => ?_)
  · refine sIfE (fun _ => ?_) (fun h3 => absurd h2 h3)
    exact two (by omega)
  refine rEq <| sIfE (fun h4 => ?_) (fun h4 => ?_)
  · exact two (by omega)
  refine rEq <| sIfE (fun h3 => ?_) (fun h3 => ?_)
  · exact three (by omega)
  · exact zero (by omega)

end Go.Proofs.YtnmmpgeojimgoaaDoor
