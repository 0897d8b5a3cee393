/-
  Isa, part 7: texts. Own work.
-/
import Derived.Test.YtnmmpgeojimgoaaDoorI6
set_option linter.unusedVariables false
set_option linter.unusedSimpArgs false
set_option maxRecDepth 100000
namespace Go.Proofs.YtnmmpgeojimgoaaDoor
open Go Go.V Go.RowKit

def regsOf (x : Cd) : List Int := [x.a, x.b, x.c].take (shRegs x.op).toNat
def regT (r : Int) : List UInt8 := 114 :: Lib.itoa r
def txtWords (x : Cd) : List (List UInt8) := opName x.op :: (regsOf x).map regT ++ if shNum x.op = 0 then [] else [Lib.itoa x.n]
def txt (x : Cd) : List UInt8 := Lib.join (txtWords x) [32]

theorem shRegs_cases (op : Int) : shRegs op = 0 ∨ shRegs op = 1 ∨ shRegs op = 2 ∨ shRegs op = 3 := by
  unfold shRegs; repeat' split
  all_goals simp

theorem right_regs {x : Cd} (h : rightB x = true) : ∀ r ∈ regsOf x, 0 ≤ r ∧ r < 16 := by
  unfold rightB at h
  simp only [Bool.and_eq_true] at h
  obtain ⟨⟨_, _⟩, h1, h2, h3⟩ := h
  intro r hr
  unfold regsOf at hr
  unfold regOk at h1 h2 h3
  rcases shRegs_cases x.op with e | e | e | e
  · rw [e] at hr; simp at hr
  · rw [e] at hr h1; simp at hr h1; subst hr; exact h1
  · rw [e] at hr h1 h2; simp at hr h1 h2; rcases hr with rfl | rfl
    · exact h1
    · exact h2
  · rw [e] at hr h1 h2 h3; simp at hr h1 h2 h3; rcases hr with rfl | rfl | rfl
    · exact h1
    · exact h2
    · exact h3
theorem right_op {x : Cd} (h : rightB x = true) : 0 ≤ x.op ∧ x.op < 27 := by
  unfold rightB at h
  simp only [Bool.and_eq_true, decide_eq_true_eq] at h
  exact h.1.1
theorem right_n {x : Cd} (h : rightB x = true) : -32768 ≤ x.n ∧ x.n < 65536 := by
  unfold rightB at h
  simp only [Bool.and_eq_true, decide_eq_true_eq] at h
  have h := h.1.2
  unfold fitsN at h
  split at h
  · simp at h; omega
  split at h
  · simp at h; omega
  split at h
  · simp at h; omega
  · simp at h; omega

theorem opName_len (op : Int) : (opName op).length ≤ 4 := by
  by_cases h : 0 ≤ op ∧ op < 27
  · have hin := opName_in h.1 h.2
    have hall : ∀ l ∈ opNames, l.length ≤ 4 := by decide
    exact hall _ (List.mem_of_getElem? hin)
  · rw [opName_out (by omega)]; simp

theorem itoa_len {n : Int} (h0 : -9223372036854775808 ≤ n) (h1 : n < 9223372036854775808) : (Lib.itoa n).length ≤ 21 := Lib.itoa_length_le n h0 (by omega)

theorem flat_le {m : Nat} : ∀ {xs : List (List UInt8)}, (∀ x ∈ xs, x.length ≤ m) → xs.flatten.length ≤ xs.length * m
  | [], _ => by simp
  | x :: xs, h => by
    have h1 := h x (by simp)
    have h2 := flat_le (xs := xs) (fun y hy => h y (by simp [hy]))
    rw [List.flatten_cons, List.length_append, List.length_cons, Nat.succ_mul]; omega

theorem txtWords_len (x : Cd) : (txtWords x).length ≤ 5 := by
  unfold txtWords regsOf
  rw [List.length_append, List.length_cons, List.length_map, List.length_take]
  have : (if shNum x.op = 0 then [] else [Lib.itoa x.n] : List (List UInt8)).length ≤ 1 := by split <;> simp
  have h3 : ([x.a, x.b, x.c] : List Int).length = 3 := rfl
  omega

theorem txtWords_small {x : Cd} (h : rightB x = true) : ∀ y ∈ txtWords x, y.length ≤ 22 := by
  intro y hy
  unfold txtWords at hy
  rcases List.mem_append.1 hy with hy | hy
  · rcases List.mem_cons.1 hy with rfl | hy
    · have := opName_len x.op; omega
    · obtain ⟨r, hr, rfl⟩ := List.mem_map.1 hy
      have := right_regs h r hr
      have := itoa_len (n := r) (by omega) (by omega)
      simp [regT]; omega
  · split at hy
    · simp at hy
    · rw [List.mem_singleton.1 hy]
      have := right_n h
      have := itoa_len (n := x.n) (by omega) (by omega)
      omega

/-- isa.Text -/
theorem text_spec {w : World} {x : Cd} {K : Value → World → Prop} (hT : Tabs w) (hn1 : -9223372036854775808 ≤ x.n) (hn2 : x.n < 9223372036854775808)
    (hK : ∀ w', Fr (fun _ => False) w w' → K (if rightB x = true then .tuple #[str (txt x), it 0] else .tuple #[str [], it 12]) w') : CallK Tryd.prog 13 #[x.v] w K := by
  apply Ret.call
  apply F13_ok
  unfold F13
  have hL := Lx.start (fun _ => False) w
  refine sBox hL (fun w1 b1 hL => ?_)
  repeat (first
    | refine rFA0 ?_
    | refine rExt0 ?_
    | refine rExt1 ?_
    | refine sExt30 ?_
    | refine sExt31 ?_
    | refine sExt2 ?_
    | refine rIfT ?_
    | refine rIfF ?_
    | refine rNot ?_
    | refine rLenB ?_
    | refine sLd hL (i := 0) rfl rfl ?_
    | refine sLd hL (i := 1) rfl rfl ?_
    | refine sLd hL (i := 2) rfl rfl ?_
    | refine sLd hL (i := 3) rfl rfl ?_
    | refine sLd hL (i := 4) rfl rfl ?_
    | refine sLd hL (i := 5) rfl rfl ?_
    | refine sLdN hL (i := 0) rfl rfl ?_
    | refine sLdN hL (i := 1) rfl rfl ?_
    | refine sLdN hL (i := 2) rfl rfl ?_
    | refine sLdN hL (i := 3) rfl rfl ?_
    | refine sLdN hL (i := 4) rfl rfl ?_
    | refine sLdN hL (i := 5) rfl rfl ?_
    | refine sLdS (i := 0) rfl rfl ?_
    | refine sLdS (i := 1) rfl rfl ?_
    | refine sLdS (i := 2) rfl rfl ?_
    | refine sLdS (i := 3) rfl rfl ?_
    | refine sLdS (i := 4) rfl rfl ?_
    | refine sLdS (i := 5) rfl rfl ?_
    | refine rFA ?_)
  refine right_spec (x := x) (hT.fr hL.fr) hn1 hn2 (fun w2 f2 => ?_)
  have hL := hL.more f2
  refine rNot <| rIf (fun h => ?_) (fun h => ?_)
  · have h : rightB x = false := by simpa using h
    have := hK _ hL.fr
    rw [h] at this
    exact this
  have h : rightB x = true := by simpa using h
  simp only [h, if_true] at hK
  have hrg := right_regs h
  have hrn := right_n h
  repeat (first
    | refine rFA0 ?_
    | refine rExt0 ?_
    | refine rExt1 ?_
    | refine sExt30 ?_
    | refine sExt31 ?_
    | refine sExt2 ?_
    | refine rIfT ?_
    | refine rIfF ?_
    | refine rNot ?_
    | refine rLenB ?_
    | refine sLd hL (i := 0) rfl rfl ?_
    | refine sLd hL (i := 1) rfl rfl ?_
    | refine sLd hL (i := 2) rfl rfl ?_
    | refine sLd hL (i := 3) rfl rfl ?_
    | refine sLd hL (i := 4) rfl rfl ?_
    | refine sLd hL (i := 5) rfl rfl ?_
    | refine sLdN hL (i := 0) rfl rfl ?_
    | refine sLdN hL (i := 1) rfl rfl ?_
    | refine sLdN hL (i := 2) rfl rfl ?_
    | refine sLdN hL (i := 3) rfl rfl ?_
    | refine sLdN hL (i := 4) rfl rfl ?_
    | refine sLdN hL (i := 5) rfl rfl ?_
    | refine sLdS (i := 0) rfl rfl ?_
    | refine sLdS (i := 1) rfl rfl ?_
    | refine sLdS (i := 2) rfl rfl ?_
    | refine sLdS (i := 3) rfl rfl ?_
    | refine sLdS (i := 4) rfl rfl ?_
    | refine sLdS (i := 5) rfl rfl ?_
    | refine rFA ?_)
  refine shape_spec (hT.fr hL.fr) (fun w3 f3 => ?_)
  have hL := hL.more f3
  refine sAlloc zc52 hL (fun w4 b4 hL => ?_)
  refine sStN hL (i := 0) rfl rfl (by simp) (by intro x hx; simp at hx; rcases hx with rfl | rfl | rfl <;> rfl) (fun w5 hL => ?_)
  have hL : Lx (fun _ => False) w w5 [.blk b4 [str (opName x.op), it (shRegs x.op), it (shNum x.op)], .blk b1 x.cs] := hL
  repeat (first
    | refine rFA0 ?_
    | refine rExt0 ?_
    | refine rExt1 ?_
    | refine sExt30 ?_
    | refine sExt31 ?_
    | refine sExt2 ?_
    | refine rIfT ?_
    | refine rIfF ?_
    | refine rNot ?_
    | refine rLenB ?_
    | refine sLd hL (i := 0) rfl rfl ?_
    | refine sLd hL (i := 1) rfl rfl ?_
    | refine sLd hL (i := 2) rfl rfl ?_
    | refine sLd hL (i := 3) rfl rfl ?_
    | refine sLd hL (i := 4) rfl rfl ?_
    | refine sLd hL (i := 5) rfl rfl ?_
    | refine sLdN hL (i := 0) rfl rfl ?_
    | refine sLdN hL (i := 1) rfl rfl ?_
    | refine sLdN hL (i := 2) rfl rfl ?_
    | refine sLdN hL (i := 3) rfl rfl ?_
    | refine sLdN hL (i := 4) rfl rfl ?_
    | refine sLdN hL (i := 5) rfl rfl ?_
    | refine sLdS (i := 0) rfl rfl ?_
    | refine sLdS (i := 1) rfl rfl ?_
    | refine sLdS (i := 2) rfl rfl ?_
    | refine sLdS (i := 3) rfl rfl ?_
    | refine sLdS (i := 4) rfl rfl ?_
    | refine sLdS (i := 5) rfl rfl ?_
    | refine rFA ?_)
  refine sBuild1 eS hL rfl (fun w6 b6 hL => ?_)
  repeat (first
    | refine rFA0 ?_
    | refine rExt0 ?_
    | refine rExt1 ?_
    | refine sExt30 ?_
    | refine sExt31 ?_
    | refine sExt2 ?_
    | refine rIfT ?_
    | refine rIfF ?_
    | refine rNot ?_
    | refine rLenB ?_
    | refine sLd hL (i := 0) rfl rfl ?_
    | refine sLd hL (i := 1) rfl rfl ?_
    | refine sLd hL (i := 2) rfl rfl ?_
    | refine sLd hL (i := 3) rfl rfl ?_
    | refine sLd hL (i := 4) rfl rfl ?_
    | refine sLd hL (i := 5) rfl rfl ?_
    | refine sLdN hL (i := 0) rfl rfl ?_
    | refine sLdN hL (i := 1) rfl rfl ?_
    | refine sLdN hL (i := 2) rfl rfl ?_
    | refine sLdN hL (i := 3) rfl rfl ?_
    | refine sLdN hL (i := 4) rfl rfl ?_
    | refine sLdN hL (i := 5) rfl rfl ?_
    | refine sLdS (i := 0) rfl rfl ?_
    | refine sLdS (i := 1) rfl rfl ?_
    | refine sLdS (i := 2) rfl rfl ?_
    | refine sLdS (i := 3) rfl rfl ?_
    | refine sLdS (i := 4) rfl rfl ?_
    | refine sLdS (i := 5) rfl rfl ?_
    | refine rFA ?_)
  refine sBuild3 eI hL rfl rfl rfl (fun w7 b7 hL => ?_)
  repeat (first
    | refine rFA0 ?_
    | refine rExt0 ?_
    | refine rExt1 ?_
    | refine sExt30 ?_
    | refine sExt31 ?_
    | refine sExt2 ?_
    | refine rIfT ?_
    | refine rIfF ?_
    | refine rNot ?_
    | refine rLenB ?_
    | refine sLd hL (i := 0) rfl rfl ?_
    | refine sLd hL (i := 1) rfl rfl ?_
    | refine sLd hL (i := 2) rfl rfl ?_
    | refine sLd hL (i := 3) rfl rfl ?_
    | refine sLd hL (i := 4) rfl rfl ?_
    | refine sLd hL (i := 5) rfl rfl ?_
    | refine sLdN hL (i := 0) rfl rfl ?_
    | refine sLdN hL (i := 1) rfl rfl ?_
    | refine sLdN hL (i := 2) rfl rfl ?_
    | refine sLdN hL (i := 3) rfl rfl ?_
    | refine sLdN hL (i := 4) rfl rfl ?_
    | refine sLdN hL (i := 5) rfl rfl ?_
    | refine sLdS (i := 0) rfl rfl ?_
    | refine sLdS (i := 1) rfl rfl ?_
    | refine sLdS (i := 2) rfl rfl ?_
    | refine sLdS (i := 3) rfl rfl ?_
    | refine sLdS (i := 4) rfl rfl ?_
    | refine sLdS (i := 5) rfl rfl ?_
    | refine rFA ?_)
  obtain ⟨R, hR⟩ : ∃ R : Nat, shRegs x.op = R ∧ R ≤ 3 := by
    rcases shRegs_cases x.op with e | e | e | e
    · exact ⟨0, e, by omega⟩
    · exact ⟨1, e, by omega⟩
    · exact ⟨2, e, by omega⟩
    · exact ⟨3, e, by omega⟩
  obtain ⟨hR, hR3⟩ := hR
  have hregs : regsOf x = [x.a, x.b, x.c].take R := by unfold regsOf; rw [hR, Int.toNat_natCast]
  rw [hR]
  refine sCut hL (i := 0) (m := R) rfl (by simpa using hR3) (fun v hL => ?_)
  have ev : [it x.a, it x.b, it x.c].take R = (regsOf x).map it := by rw [hregs, List.map_take]; rfl
  rw [ev] at hL
  have hlen : (regsOf x).length ≤ 3 := by rw [hregs]; simp; omega
  have hL : Lx (fun _ => False) w w7 [.row v ((regsOf x).map it) (some b7), .row (sv b6 1 1) [str (opName x.op)] (some b6), .blk b4 [str (opName x.op), it R, it (shNum x.op)], .blk b1 x.cs] := by rw [← hR]; exact hL
  refine sLen hL (i := 0) rfl ?_
  rw [List.length_map]
  refine ⟨fun vs ds W => ds = [] ∧ ∃ (i : Nat) (u : Value) (bl : Option Nat), i ≤ (regsOf x).length ∧ vs = [pt b1 0, pt b4 0, u, v, it (regsOf x).length, it i] ∧
      Lx (fun _ => False) w W [.row v ((regsOf x).map it) (some b7), .row u ((opName x.op :: ((regsOf x).take i).map regT).map str) bl, .blk b4 [str (opName x.op), it R, it (shNum x.op)], .blk b1 x.cs],
    fun vs _ _ => match vs with | [_, _, _, _, _, .int _ i] => (regsOf x).length - i.toNat | _ => 0, ⟨rfl, 0, _, _, by omega, rfl, hL⟩, ?_⟩
  rintro ρ ds W ⟨rfl, i, u, bl, hi, hρ, hL⟩
  rw [hρ]
  simp only [List.map_cons, List.map_nil, List.cons.injEq, and_true] at hρ
  obtain ⟨e1, e4, e5, e26, e27, e28⟩ := hρ
  unfold F13L1
  simp only [e1, e4, e5, e26, e27, e28]
  refine rLt <| sIfD (fun hlt => ?_) (fun hge => ?_)
  · have hlt : i < (regsOf x).length := by omega
    obtain ⟨r, hr⟩ : ∃ r, (regsOf x)[i]? = some r := ⟨_, List.getElem?_eq_getElem hlt⟩
    refine sIdx hL (i := 0) rfl (x := it r) (by rw [List.getElem?_map, hr]; rfl) ?_
    have hrb := hrg r (List.mem_of_getElem? hr)
    refine itoa_spec (hT.fr hL.fr) (by omega) (by omega) (fun w8 f8 => ?_)
    have hL := hL.more f8
    have hil := itoa_len (n := r) (by omega) (by omega)
    refine sAddS (a := [114]) (by simp; omega) ?_
    refine sApp1 eS hL (i := 1) rfl rfl (by simp; omega) (fun w9 v9 bl9 hL hne => ?_)
    refine rAdd (by omega) (by omega) ?_
    refine ⟨⟨by trivial, i + 1, v9, bl9, hlt, by simp, ?_⟩, by simp; omega⟩
    have et : (regsOf x).take (i + 1) = (regsOf x).take i ++ [r] := by rw [List.take_add_one, hr]; rfl
    rw [et]
    simpa [regT] using hL
  · have hi : i = (regsOf x).length := by omega
    subst hi
    rw [List.take_length] at hL
    have hsm := txtWords_small h
    have hfl := flat_le hsm
    have hwl := txtWords_len x
    repeat (first
      | refine rFA0 ?_
      | refine rExt0 ?_
      | refine rExt1 ?_
      | refine sExt30 ?_
      | refine sExt31 ?_
      | refine sExt2 ?_
      | refine rIfT ?_
      | refine rIfF ?_
      | refine rNot ?_
      | refine rLenB ?_
      | refine sLd hL (i := 0) rfl rfl ?_
      | refine sLd hL (i := 1) rfl rfl ?_
      | refine sLd hL (i := 2) rfl rfl ?_
      | refine sLd hL (i := 3) rfl rfl ?_
      | refine sLd hL (i := 4) rfl rfl ?_
      | refine sLd hL (i := 5) rfl rfl ?_
      | refine sLdN hL (i := 0) rfl rfl ?_
      | refine sLdN hL (i := 1) rfl rfl ?_
      | refine sLdN hL (i := 2) rfl rfl ?_
      | refine sLdN hL (i := 3) rfl rfl ?_
      | refine sLdN hL (i := 4) rfl rfl ?_
      | refine sLdN hL (i := 5) rfl rfl ?_
      | refine sLdS (i := 0) rfl rfl ?_
      | refine sLdS (i := 1) rfl rfl ?_
      | refine sLdS (i := 2) rfl rfl ?_
      | refine sLdS (i := 3) rfl rfl ?_
      | refine sLdS (i := 4) rfl rfl ?_
      | refine sLdS (i := 5) rfl rfl ?_
      | refine rFA ?_)
    refine rNe <| sIfNE (fun hk => ?_) (fun hk => ?_)
    · repeat (first
        | refine rFA0 ?_
        | refine rExt0 ?_
        | refine rExt1 ?_
        | refine sExt30 ?_
        | refine sExt31 ?_
        | refine sExt2 ?_
        | refine rIfT ?_
        | refine rIfF ?_
        | refine rNot ?_
        | refine rLenB ?_
        | refine sLd hL (i := 0) rfl rfl ?_
        | refine sLd hL (i := 1) rfl rfl ?_
        | refine sLd hL (i := 2) rfl rfl ?_
        | refine sLd hL (i := 3) rfl rfl ?_
        | refine sLd hL (i := 4) rfl rfl ?_
        | refine sLd hL (i := 5) rfl rfl ?_
        | refine sLdN hL (i := 0) rfl rfl ?_
        | refine sLdN hL (i := 1) rfl rfl ?_
        | refine sLdN hL (i := 2) rfl rfl ?_
        | refine sLdN hL (i := 3) rfl rfl ?_
        | refine sLdN hL (i := 4) rfl rfl ?_
        | refine sLdN hL (i := 5) rfl rfl ?_
        | refine sLdS (i := 0) rfl rfl ?_
        | refine sLdS (i := 1) rfl rfl ?_
        | refine sLdS (i := 2) rfl rfl ?_
        | refine sLdS (i := 3) rfl rfl ?_
        | refine sLdS (i := 4) rfl rfl ?_
        | refine sLdS (i := 5) rfl rfl ?_
        | refine rFA ?_)
      refine itoa_spec (hT.fr hL.fr) (by omega) (by omega) (fun w8 f8 => ?_)
      have hL := hL.more f8
      refine sApp1 eS hL (i := 1) rfl rfl (by simp; omega) (fun w9 v9 bl9 hL hne => ?_)
      have hr : Row w9 v9 ((txtWords x).map str) bl9 := by
        have := hL.row (i := 1) rfl
        unfold txtWords
        rw [if_neg hk]
        simpa using this
      refine join_spec hr (by omega) (by rw [List.length_singleton]; omega) (fun w10 f10 => ?_)
      exact hK w10 (hL.more f10).fr
    · have hr : Row W u ((txtWords x).map str) bl := by
        have := hL.row (i := 1) rfl
        unfold txtWords
        rw [if_pos hk, List.append_nil]
        exact this
      refine join_spec hr (by omega) (by rw [List.length_singleton]; omega) (fun w10 f10 => ?_)
      exact hK w10 (hL.more f10).fr

end Go.Proofs.YtnmmpgeojimgoaaDoor
