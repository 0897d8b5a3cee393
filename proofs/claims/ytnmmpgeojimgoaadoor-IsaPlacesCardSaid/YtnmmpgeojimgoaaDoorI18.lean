/-
  Isa, part 18: List; the chapter's examples. Own work.
-/
import Derived.Test.YtnmmpgeojimgoaaDoorI17
set_option linter.unusedVariables false
set_option linter.unusedSimpArgs false
set_option maxRecDepth 100000
namespace Go.Proofs.YtnmmpgeojimgoaaDoor
open Go Go.V Go.RowKit

/-- the texts of instructions' bytes -/
def listB : List UInt8 → Option (List (List UInt8))
  | [] => some []
  | a :: b :: c :: d :: r => match decode [a, b, c, d] with
    | some x => (listB r).map (txt x :: ·)
    | none => none
  | _ => none

theorem listB_mod : ∀ (l : List UInt8) (ts : List (List UInt8)), listB l = some ts → l.length % 4 = 0
  | [], _, _ => rfl
  | [_], _, h => by simp [listB] at h
  | [_, _], _, h => by simp [listB] at h
  | [_, _, _], _, h => by simp [listB] at h
  | a :: b :: c :: d :: r, ts, h => by
    rw [listB] at h
    cases hd : decode [a, b, c, d] with
    | none => rw [hd] at h; cases h
    | some x =>
      rw [hd] at h
      obtain ⟨t, ht, _⟩ := Option.map_eq_some_iff.1 h
      have := listB_mod r t ht
      simp only [List.length_cons]; omega

theorem decode_right {a b c d : UInt8} {x : Cd} (h : decode [a, b, c, d] = some x) : rightB x = true ∧ enc x = [a, b, c, d] := by
  rw [decode4] at h
  split at h
  · rename_i hr
    cases h
    exact ⟨hr, enc_decC a b c d⟩
  · cases h

theorem txt_len {x : Cd} (hr : rightB x = true) : (txt x).length < 1000 := by
  have := flat_le (txtWords_small hr)
  have h5 := txtWords_len x
  unfold txt
  cases hw : txtWords x with
  | nil => exact absurd hw (txtWords_ne x)
  | cons a r =>
    rw [hw] at this h5
    rw [Lib.join_cons, List.length_append, joinTail_len]
    rw [List.flatten_cons, List.length_append, List.length_cons] at this
    rw [List.length_cons] at h5
    simp only [List.length_singleton]
    omega

def mu3 (n : Nat) (vs : List Value) : Nat := match vs with
  | [_, _, .int _ i] => n - i.toNat
  | _ => 0

/-- isa.List -/
theorem list_spec {w : World} {l : List UInt8} {K : Value → World → Prop} (hT : Tabs w) (hl : l.length < 4000000)
    (hok : ∀ ts, listB l = some ts → ∀ w' v bl, Row w' v (ts.map str) bl → Fr (fun _ => False) w w' → K (.tuple #[v, it 0]) w')
    (hbad : listB l = none → ∀ w', Fr (fun _ => False) w w' → K (.tuple #[.slice none 0 0, it 12]) w') : CallK Tryd.prog 23 #[str l] w K := by
  apply Ret.call
  apply F23_ok
  unfold F23
  refine rLenB <| sRem (by decide) ?_
  have e1 : (l.length : Int).tmod 4 = ((l.length % 4 : Nat) : Int) := by
    rw [Int.tmod_eq_emod_of_nonneg (by omega)]; omega
  rw [e1]
  refine rNe <| sIfNE (fun h => ?_) (fun h => ?_)
  · refine hbad ?_ w (Fr.refl _ _)
    cases hb : listB l with
    | none => rfl
    | some ts => exact absurd (listB_mod l ts hb) (by omega)
  have hL := (Lx.start (fun _ => False) w).nilRow
  refine ⟨fun vs ds W => ds = [] ∧ ∃ (k : Nat) (ts : List (List UInt8)) (v : Value) (bl : Option Nat), 4 * k ≤ l.length ∧ ts.length = k ∧ vs = [str l, v, it (4 * k : Nat)] ∧ listB l = (listB (l.drop (4 * k))).map (ts ++ ·) ∧ Lx (fun _ => False) w W [.row v (ts.map str) bl],
    fun vs _ _ => mu3 l.length vs, ⟨rfl, 0, [], _, none, by omega, rfl, rfl, by simp, hL⟩, ?_⟩
  clear hL
  rintro ρ ds W ⟨rfl, k, ts, v, bl, hk, htl, hρ, hb, hL⟩
  rw [hρ]
  simp only [List.map_cons, List.map_nil, List.cons.injEq, and_true] at hρ
  obtain ⟨e0, e4, e5⟩ := hρ
  unfold F23L1
  simp only [e0, e4, e5]
  refine rLenB <| rLt <| sIfD (fun hlt => ?_) (fun hge => ?_)
  · obtain ⟨a, b, c, d, r, hd⟩ : ∃ a b c d r, l.drop (4 * k) = a :: b :: c :: d :: r := by
      have hlen : (l.drop (4 * k)).length ≥ 4 := by rw [List.length_drop]; omega
      match hm : l.drop (4 * k), hlen with
      | a :: b :: c :: d :: r, _ => exact ⟨a, b, c, d, r, rfl⟩
    have hr : r = l.drop (4 * (k + 1)) := by
      have := congrArg (List.drop 4) hd
      rw [List.drop_drop] at this
      simp at this
      rw [← this]; congr 1
    rw [hd, listB] at hb
    refine rAdd (by omega) (by omega) ?_
    have e4 : ((4 * k : Nat) : Int) + 4 = ((4 * (k + 1) : Nat) : Int) := by omega
    rw [e4]
    refine rSlStr (i := 4 * k) (j := 4 * (k + 1)) (by omega) (by omega) ?_
    have e5 : (l.drop (4 * k)).take (4 * (k + 1) - 4 * k) = [a, b, c, d] := by
      rw [hd, show 4 * (k + 1) - 4 * k = 4 by omega]; rfl
    rw [e5]
    refine decode_spec (hT.fr hL.fr) (fun w1 f1 => ?_)
    have hL := hL.more f1
    cases hdec : decode [a, b, c, d] with
    | none =>
      rw [hdec] at hb
      unfold decV
      repeat (first
        | refine rFA0 ?_
        | refine rExt0 ?_
        | refine rExt1 ?_
        | refine sExt30 ?_
        | refine sExt31 ?_
        | refine sExt2 ?_
        | refine rIfT ?_
        | refine rIfF ?_
        | refine rNot ?_
        | refine rLenB ?_
        | refine sLd hL (i := 0) rfl rfl ?_
        | refine sLd hL (i := 1) rfl rfl ?_
        | refine sLd hL (i := 2) rfl rfl ?_
        | refine sLd hL (i := 3) rfl rfl ?_
        | refine sLd hL (i := 4) rfl rfl ?_
        | refine sLd hL (i := 5) rfl rfl ?_
        | refine sLdN hL (i := 0) rfl rfl ?_
        | refine sLdN hL (i := 1) rfl rfl ?_
        | refine sLdN hL (i := 2) rfl rfl ?_
        | refine sLdN hL (i := 3) rfl rfl ?_
        | refine sLdN hL (i := 4) rfl rfl ?_
        | refine sLdN hL (i := 5) rfl rfl ?_
        | refine sLdS (i := 0) rfl rfl ?_
        | refine sLdS (i := 1) rfl rfl ?_
        | refine sLdS (i := 2) rfl rfl ?_
        | refine sLdS (i := 3) rfl rfl ?_
        | refine sLdS (i := 4) rfl rfl ?_
        | refine sLdS (i := 5) rfl rfl ?_
        | refine rFA ?_)
      refine sAlloc zc23 hL (fun w2 b2 hL => ?_)
      refine sStN hL (i := 0) rfl rfl (by simp) (by intro y hy; simp at hy; rcases hy with rfl | rfl | rfl | rfl | rfl <;> rfl) (fun w3 hL => ?_)
      refine rNe <| rIfT ?_
      exact hbad hb w3 hL.fr
    | some x =>
      rw [hdec] at hb
      obtain ⟨hxr, hxe⟩ := decode_right hdec
      have hxn := right_n hxr
      unfold decV
      repeat (first
        | refine rFA0 ?_
        | refine rExt0 ?_
        | refine rExt1 ?_
        | refine sExt30 ?_
        | refine sExt31 ?_
        | refine sExt2 ?_
        | refine rIfT ?_
        | refine rIfF ?_
        | refine rNot ?_
        | refine rLenB ?_
        | refine sLd hL (i := 0) rfl rfl ?_
        | refine sLd hL (i := 1) rfl rfl ?_
        | refine sLd hL (i := 2) rfl rfl ?_
        | refine sLd hL (i := 3) rfl rfl ?_
        | refine sLd hL (i := 4) rfl rfl ?_
        | refine sLd hL (i := 5) rfl rfl ?_
        | refine sLdN hL (i := 0) rfl rfl ?_
        | refine sLdN hL (i := 1) rfl rfl ?_
        | refine sLdN hL (i := 2) rfl rfl ?_
        | refine sLdN hL (i := 3) rfl rfl ?_
        | refine sLdN hL (i := 4) rfl rfl ?_
        | refine sLdN hL (i := 5) rfl rfl ?_
        | refine sLdS (i := 0) rfl rfl ?_
        | refine sLdS (i := 1) rfl rfl ?_
        | refine sLdS (i := 2) rfl rfl ?_
        | refine sLdS (i := 3) rfl rfl ?_
        | refine sLdS (i := 4) rfl rfl ?_
        | refine sLdS (i := 5) rfl rfl ?_
        | refine rFA ?_)
      refine sAlloc zc23 hL (fun w2 b2 hL => ?_)
      refine sStN hL (i := 0) rfl rfl (by simp) (Cd.cs_one x) (fun w3 hL => ?_)
      have hL : Lx (fun _ => False) w w3 [.blk b2 x.cs, .row v (ts.map str) bl] := hL
      refine rNe <| rIfF ?_
      repeat (first
        | refine rFA0 ?_
        | refine rExt0 ?_
        | refine rExt1 ?_
        | refine sExt30 ?_
        | refine sExt31 ?_
        | refine sExt2 ?_
        | refine rIfT ?_
        | refine rIfF ?_
        | refine rNot ?_
        | refine rLenB ?_
        | refine sLd hL (i := 0) rfl rfl ?_
        | refine sLd hL (i := 1) rfl rfl ?_
        | refine sLd hL (i := 2) rfl rfl ?_
        | refine sLd hL (i := 3) rfl rfl ?_
        | refine sLd hL (i := 4) rfl rfl ?_
        | refine sLd hL (i := 5) rfl rfl ?_
        | refine sLdN hL (i := 0) rfl rfl ?_
        | refine sLdN hL (i := 1) rfl rfl ?_
        | refine sLdN hL (i := 2) rfl rfl ?_
        | refine sLdN hL (i := 3) rfl rfl ?_
        | refine sLdN hL (i := 4) rfl rfl ?_
        | refine sLdN hL (i := 5) rfl rfl ?_
        | refine sLdS (i := 0) rfl rfl ?_
        | refine sLdS (i := 1) rfl rfl ?_
        | refine sLdS (i := 2) rfl rfl ?_
        | refine sLdS (i := 3) rfl rfl ?_
        | refine sLdS (i := 4) rfl rfl ?_
        | refine sLdS (i := 5) rfl rfl ?_
        | refine rFA ?_)
      refine text_spec (x := x) (hT.fr hL.fr) (by omega) (by omega) (fun w4 f4 => ?_)
      have hL := hL.more f4
      rw [hxr, if_pos rfl]
      repeat (first
        | refine rFA0 ?_
        | refine rExt0 ?_
        | refine rExt1 ?_
        | refine sExt30 ?_
        | refine sExt31 ?_
        | refine sExt2 ?_
        | refine rIfT ?_
        | refine rIfF ?_
        | refine rNot ?_
        | refine rLenB ?_
        | refine sLd hL (i := 0) rfl rfl ?_
        | refine sLd hL (i := 1) rfl rfl ?_
        | refine sLd hL (i := 2) rfl rfl ?_
        | refine sLd hL (i := 3) rfl rfl ?_
        | refine sLd hL (i := 4) rfl rfl ?_
        | refine sLd hL (i := 5) rfl rfl ?_
        | refine sLdN hL (i := 0) rfl rfl ?_
        | refine sLdN hL (i := 1) rfl rfl ?_
        | refine sLdN hL (i := 2) rfl rfl ?_
        | refine sLdN hL (i := 3) rfl rfl ?_
        | refine sLdN hL (i := 4) rfl rfl ?_
        | refine sLdN hL (i := 5) rfl rfl ?_
        | refine sLdS (i := 0) rfl rfl ?_
        | refine sLdS (i := 1) rfl rfl ?_
        | refine sLdS (i := 2) rfl rfl ?_
        | refine sLdS (i := 3) rfl rfl ?_
        | refine sLdS (i := 4) rfl rfl ?_
        | refine sLdS (i := 5) rfl rfl ?_
        | refine rFA ?_)
      refine sApp1 eS hL (i := 1) rfl rfl (by simp; omega) (fun w5 v5 bl5 hL hne => ?_)
      refine rAdd (by omega) (by omega) ?_
      rw [e4]
      refine ⟨⟨by trivial, k + 1, ts ++ [txt x], v5, bl5, by omega, by simp [htl], by simp, ?_, ?_⟩, by simp [mu3]; omega⟩
      · rw [hb, ← hr]
        simp only [Option.map_map]
        congr 1
        funext z
        simp
      · rw [List.map_append]
        exact hL.sub (List.Sublist.cons _ (List.Sublist.refl _))
  · have hk : 4 * k = l.length := by omega
    rw [hk, List.drop_length, listB] at hb
    refine hok ts (by rw [hb]; simp) W v bl (hL.row (i := 0) rfl) hL.fr

/-! ### The chapter's examples -/

theorem itoa_dig {n : Int} (h0 : 0 ≤ n) (h1 : n < 10) : Lib.itoa n = [UInt8.ofNat (48 + n.toNat)] := by
  rw [itoa_nat (by omega)]
  exact Lib.decDigits_one (by omega)

theorem calls_says {l : List UInt8} {x : Cd} {nm : List UInt8} (h : Calls l x nm) : ∀ y, ¬ Says l y := by
  intro y hy
  obtain ⟨e1, e2⟩ := (says_reads hy).uniq h.1
  have e1 : y.op = x.op := by rw [← e1]
  rw [if_neg (by rw [e1, h.2.1]; decide)] at e2
  have hl := name_letters h.2.2
  cases hi : Lib.itoa y.n with
  | nil => exact itoa_ne _ hi
  | cons b r =>
    have h1 := itoa_byte y.n b (by rw [hi]; simp)
    have h2 := hl b (by rw [← e2, hi]; simp)
    omega

def exText : List UInt8 := [97, 103, 97, 105, 110, 58, 10, 97, 100, 100, 32, 114, 49, 32, 114, 49, 32, 114, 50, 10, 103, 111, 32, 97, 103, 97, 105, 110, 10]
def nmAgain : List UInt8 := [97, 103, 97, 105, 110]

theorem exParts : parts 10 exText = [[97, 103, 97, 105, 110, 58], [97, 100, 100, 32, 114, 49, 32, 114, 49, 32, 114, 50], [103, 111, 32, 97, 103, 97, 105, 110], []] := by decide

theorem exAdd : lineOf [97, 100, 100, 32, 114, 49, 32, 114, 49, 32, 114, 50] = some (⟨6, 1, 1, 2, 0⟩, []) := by
  refine lineOf_says ⟨by decide, ?_⟩
  unfold txt txtWords
  rw [regs3 (x := ⟨6, 1, 1, 2, 0⟩) (by decide)]
  simp only [List.map_cons, List.map_nil, regT]
  rw [itoa_dig (n := 1) (by decide) (by decide), itoa_dig (n := 2) (by decide) (by decide)]
  decide
theorem exGo : lineOf [103, 111, 32, 97, 103, 97, 105, 110] = some (⟨22, 0, 0, 0, 0⟩, nmAgain) := by
  have hc : Calls [103, 111, 32, 97, 103, 97, 105, 110] ⟨22, 0, 0, 0, 0⟩ nmAgain := by
    refine ⟨⟨by decide, rfl, by decide, ?_, ⟨fun _ => rfl, fun _ => rfl, fun _ => rfl⟩, fun h => absurd h (by decide)⟩, by decide, by decide⟩
    rw [regs0 (x := ⟨22, 0, 0, 0, 0⟩) (by decide)]
    intro r hr; cases hr
  exact lineOf_calls (calls_says hc) hc

theorem exBuild : buildB exText = ([6, 1, 1, 2, 22, 0, 254, 255], 0, 0) := by
  unfold buildB
  rw [exParts]
  rw [if_neg (by decide)]
  have hs : scan 0 [[97, 103, 97, 105, 110, 58], [97, 100, 100, 32, 114, 49, 32, 114, 49, 32, 114, 50], [103, 111, 32, 97, 103, 97, 105, 110], []] [] [] = .inr ([⟨2, ⟨6, 1, 1, 2, 0⟩, []⟩, ⟨3, ⟨22, 0, 0, 0, 0⟩, nmAgain⟩], [(nmAgain, 0)]) := by
    rw [scan_cons, if_neg (by decide), if_pos (by decide), if_neg (by decide)]
    rw [scan_cons, if_neg (by decide), if_neg (by decide), exAdd]
    simp only
    rw [scan_cons, if_neg (by decide), if_neg (by decide), exGo]
    simp only
    rw [scan_cons, if_pos rfl, scan_nil]
    rfl
  rw [hs]
  decide

theorem exText2 : txt ⟨23, 1, 0, 0, -2⟩ = [122, 101, 114, 111, 32, 114, 49, 32, 45, 50] := by
  unfold txt txtWords
  rw [regs1 (x := ⟨23, 1, 0, 0, -2⟩) (by decide)]
  simp only [List.map_cons, List.map_nil, regT]
  rw [itoa_dig (n := 1) (by decide) (by decide), itoa_neg (n := -2) (by decide), show (Int.natAbs (-2)) = 2 from rfl, Lib.decDigits_one (by decide)]
  decide

theorem b23_4 : (fun (K : Value → Prop) => vBuild Tryd.prog 23 [(0, it 6), (1, it 1), (2, it 2), (3, it 15)] K) = fun K => ((1 : Nat) = 1 ∧ (1 : Nat) = 1 ∧ (1 : Nat) = 1 ∧ (1 : Nat) = 1 ∧ K (.agg #[it 6, it 1, it 2, it 15, it 0])) := by kernel_rfl
theorem b23_3 : (fun (K : Value → Prop) => vBuild Tryd.prog 23 [(0, it 23), (1, it 1), (4, it (-2))] K) = fun K => ((1 : Nat) = 1 ∧ (1 : Nat) = 1 ∧ (1 : Nat) = 1 ∧ K (.agg #[it 23, it 1, it 0, it 0, it (-2)])) := by kernel_rfl

/-- lives -/
theorem lives_spec {w : World} {K : Value → World → Prop} (hT : Tabs w) (hK : ∀ w', Fr (fun _ => False) w w' → K (.bool true) w') : CallK Tryd.prog 10 #[] w K := by
  apply Ret.call
  apply F10_ok
  unfold F10
  rw [congrFun b23_4 _]
  refine ⟨rfl, rfl, rfl, rfl, ?_⟩
  refine encode_spec (x := ⟨6, 1, 2, 15, 0⟩) hT (by decide) (by decide) (fun w1 f1 => ?_)
  rw [if_pos (by decide)]
  have e1 : enc ⟨6, 1, 2, 15, 0⟩ = [6, 1, 2, 15] := by decide
  rw [e1]
  repeat (first
    | refine rFA0 ?_
    | refine rExt0 ?_
    | refine rExt1 ?_
    | refine sExt30 ?_
    | refine sExt31 ?_
    | refine sExt2 ?_
    | refine rIfT ?_
    | refine rIfF ?_
    | refine rNot ?_
    | refine rLenB ?_
    | refine sLd hL (i := 0) rfl rfl ?_
    | refine sLd hL (i := 1) rfl rfl ?_
    | refine sLd hL (i := 2) rfl rfl ?_
    | refine sLd hL (i := 3) rfl rfl ?_
    | refine sLd hL (i := 4) rfl rfl ?_
    | refine sLd hL (i := 5) rfl rfl ?_
    | refine sLdN hL (i := 0) rfl rfl ?_
    | refine sLdN hL (i := 1) rfl rfl ?_
    | refine sLdN hL (i := 2) rfl rfl ?_
    | refine sLdN hL (i := 3) rfl rfl ?_
    | refine sLdN hL (i := 4) rfl rfl ?_
    | refine sLdN hL (i := 5) rfl rfl ?_
    | refine sLdS (i := 0) rfl rfl ?_
    | refine sLdS (i := 1) rfl rfl ?_
    | refine sLdS (i := 2) rfl rfl ?_
    | refine sLdS (i := 3) rfl rfl ?_
    | refine sLdS (i := 4) rfl rfl ?_
    | refine sLdS (i := 5) rfl rfl ?_
    | refine rFA ?_)
  refine build_spec (l := exText) (hT.fr f1) (by decide) (fun w2 f2 => ?_)
  rw [exBuild]
  repeat (first
    | refine rFA0 ?_
    | refine rExt0 ?_
    | refine rExt1 ?_
    | refine sExt30 ?_
    | refine sExt31 ?_
    | refine sExt2 ?_
    | refine rIfT ?_
    | refine rIfF ?_
    | refine rNot ?_
    | refine rLenB ?_
    | refine sLd hL (i := 0) rfl rfl ?_
    | refine sLd hL (i := 1) rfl rfl ?_
    | refine sLd hL (i := 2) rfl rfl ?_
    | refine sLd hL (i := 3) rfl rfl ?_
    | refine sLd hL (i := 4) rfl rfl ?_
    | refine sLd hL (i := 5) rfl rfl ?_
    | refine sLdN hL (i := 0) rfl rfl ?_
    | refine sLdN hL (i := 1) rfl rfl ?_
    | refine sLdN hL (i := 2) rfl rfl ?_
    | refine sLdN hL (i := 3) rfl rfl ?_
    | refine sLdN hL (i := 4) rfl rfl ?_
    | refine sLdN hL (i := 5) rfl rfl ?_
    | refine sLdS (i := 0) rfl rfl ?_
    | refine sLdS (i := 1) rfl rfl ?_
    | refine sLdS (i := 2) rfl rfl ?_
    | refine sLdS (i := 3) rfl rfl ?_
    | refine sLdS (i := 4) rfl rfl ?_
    | refine sLdS (i := 5) rfl rfl ?_
    | refine rFA ?_)
  rw [congrFun b23_3 _]
  refine ⟨rfl, rfl, rfl, ?_⟩
  have f := f1.more f2
  refine text_spec (x := ⟨23, 1, 0, 0, -2⟩) (hT.fr f) (by decide) (by decide) (fun w3 f3 => ?_)
  rw [if_pos (by decide), exText2]
  repeat (first
    | refine rFA0 ?_
    | refine rExt0 ?_
    | refine rExt1 ?_
    | refine sExt30 ?_
    | refine sExt31 ?_
    | refine sExt2 ?_
    | refine rIfT ?_
    | refine rIfF ?_
    | refine rNot ?_
    | refine rLenB ?_
    | refine sLd hL (i := 0) rfl rfl ?_
    | refine sLd hL (i := 1) rfl rfl ?_
    | refine sLd hL (i := 2) rfl rfl ?_
    | refine sLd hL (i := 3) rfl rfl ?_
    | refine sLd hL (i := 4) rfl rfl ?_
    | refine sLd hL (i := 5) rfl rfl ?_
    | refine sLdN hL (i := 0) rfl rfl ?_
    | refine sLdN hL (i := 1) rfl rfl ?_
    | refine sLdN hL (i := 2) rfl rfl ?_
    | refine sLdN hL (i := 3) rfl rfl ?_
    | refine sLdN hL (i := 4) rfl rfl ?_
    | refine sLdN hL (i := 5) rfl rfl ?_
    | refine sLdS (i := 0) rfl rfl ?_
    | refine sLdS (i := 1) rfl rfl ?_
    | refine sLdS (i := 2) rfl rfl ?_
    | refine sLdS (i := 3) rfl rfl ?_
    | refine sLdS (i := 4) rfl rfl ?_
    | refine sLdS (i := 5) rfl rfl ?_
    | refine rFA ?_)
  have f := f.more f3
  refine rEq <| rIfT ?_
  refine rSEq (l := [6, 1, 2, 15]) (m := [6, 1, 2, 15]) <| rIfT ?_
  refine rEq <| rIfT ?_
  refine rEq <| rIfT ?_
  refine rSEq (l := [6, 1, 1, 2, 22, 0, 254, 255]) (m := [6, 1, 1, 2, 22, 0, 254, 255]) <| rIfT ?_
  refine rEq <| rIfT ?_
  refine rSEq (l := [122, 101, 114, 111, 32, 114, 49, 32, 45, 50]) (m := [122, 101, 114, 111, 32, 114, 49, 32, 45, 50]) ?_
  exact hK w3 f

end Go.Proofs.YtnmmpgeojimgoaaDoor
