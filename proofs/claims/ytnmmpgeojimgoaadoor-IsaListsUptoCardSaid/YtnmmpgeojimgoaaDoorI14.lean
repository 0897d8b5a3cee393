/-
  Isa, part 14: the document's words, values, registers. Own work.
-/
import Derived.Test.YtnmmpgeojimgoaaDoorI13
set_option linter.unusedVariables false
set_option linter.unusedSimpArgs false
set_option maxRecDepth 100000
namespace Go.Proofs.YtnmmpgeojimgoaaDoor
open Go Go.V Go.RowKit

theorem parts_snoc {c b : UInt8} : ∀ {m : List UInt8} {done : List (List UInt8)} {cur : List UInt8}, parts c m = done ++ [cur] → parts c (m ++ [b]) = if b = c then done ++ [cur, []] else done ++ [cur ++ [b]]
  | [], done, cur, h => by
    have : done = [] ∧ cur = [] := by
      cases done with
      | nil => simp [parts] at h; exact ⟨rfl, h⟩
      | cons a r => simp [parts] at h
    obtain ⟨rfl, rfl⟩ := this
    simp only [List.nil_append, parts]
    done
  | a :: m, done, cur, h => by
    rw [List.cons_append]
    unfold parts at h ⊢
    by_cases ha : a = c
    · rw [if_pos ha] at h ⊢
      cases done with
      | nil =>
        simp at h
        exact absurd h.2 (parts_ne _ _)
      | cons d done =>
        rw [List.cons_append] at h
        have h1 := (List.cons.inj h).1
        have h2 := (List.cons.inj h).2
        rw [parts_snoc h2, ← h1]
        split <;> rfl
    · rw [if_neg ha] at h ⊢
      cases hp : parts c m with
      | nil => exact absurd hp (parts_ne _ _)
      | cons x xs =>
        rw [hp] at h
        simp only at h
        cases done with
        | nil =>
          simp at h
          obtain ⟨h1, h2⟩ := h
          subst h2
          rw [parts_snoc (done := []) (cur := x) (by rw [hp]; rfl), ← h1]
          by_cases hb : b = c
          · simp [hb]
          · simp [hb]
        | cons d done =>
          rw [List.cons_append] at h
          have h1 := (List.cons.inj h).1
          have h2 := (List.cons.inj h).2
          rw [parts_snoc (done := x :: done) (cur := cur) (by rw [hp, h2]; rfl), ← h1]
          by_cases hb : b = c
          · simp [hb]
          · simp [hb]

/-- gatehouseref02.Words -/
theorem words_spec {w : World} {l : List UInt8} (c : UInt8) {cn : Int} (hcn : cn = c.toNat) {K : Value → World → Prop} (hl : l.length < 1000000)
    (hK : ∀ w' v bl, Row w' v ((parts c l).map str) bl → (∀ k, bl = some k → w.heap.size ≤ k) → Fr (fun _ => False) w w' → K v w') : CallK Tryd.prog 36 #[str l, .int .u8 cn] w K := by
  subst hcn
  apply Ret.call
  apply F36_ok
  unfold F36
  have hL := Lx.start (fun _ => False) w
  refine eS.build0 (fun w1 hr f1 _ => ?_)
  have hL := hL.newRow hr (Nat.le_refl _) f1
  generalize sv w.heap.size 0 0 = v0 at *
  refine ⟨fun vs ds W => ds = [] ∧ ∃ (i : Nat) (done : List (List UInt8)) (cur : List UInt8) (v : Value) (bl : Option Nat), i ≤ l.length ∧ vs = [str l, .int .u8 c.toNat, v, str cur, it i] ∧ parts c (l.take i) = done ++ [cur] ∧
      done.length ≤ i ∧ cur.length ≤ i ∧ Lx (fun _ => False) w W [.row v (done.map str) bl],
    fun vs _ _ => match vs with | [_, _, _, _, .int _ i] => l.length - i.toNat | _ => 0, ⟨rfl, 0, [], [], _, _, by omega, rfl, by simp [parts], by simp, by simp, hL⟩, ?_⟩
  rintro ρ ds W ⟨rfl, i, done, cur, v, bl, hi, hρ, hp, hd, hc, hL⟩
  rw [hρ]
  simp only [List.map_cons, List.map_nil, List.cons.injEq, and_true] at hρ
  obtain ⟨e0, e1, e5, e6, e7⟩ := hρ
  unfold F36L1
  simp only [e0, e1, e5, e6, e7]
  refine rLenB <| rLt <| sIfD (fun hlt => ?_) (fun hge => ?_)
  · obtain ⟨b, hb⟩ : ∃ b, l[i]? = some b := ⟨_, List.getElem?_eq_getElem (by omega)⟩
    have et : l.take (i + 1) = l.take i ++ [b] := by rw [List.take_add_one, hb]; rfl
    have hs := parts_snoc (b := b) hp
    rw [← et] at hs
    refine rIxS hb <| rEq8 <| sIfE (fun h => ?_) (fun h => ?_)
    · have h : b = c := UInt8.toNat.inj (by omega)
      rw [if_pos h] at hs
      refine sApp1 eS hL (i := 0) rfl rfl (by simp; omega) (fun w2 v2 bl2 hL hne => ?_)
      refine rAdd (by omega) (by omega) ⟨⟨by trivial, i + 1, done ++ [cur], [], v2, bl2, by omega, by simp, by rw [hs]; simp, by simp; omega, by simp, ?_⟩, by simp; omega⟩
      rw [List.map_append]
      exact hL
    · have h : b ≠ c := fun e => h (by rw [e])
      rw [if_neg h] at hs
      refine rIxS hb ?_
      refine bs_str1 (fun w2 f2 => ?_)
      have hL := hL.more f2
      refine sAddS (by simp; omega) ?_
      refine rAdd (by omega) (by omega) ⟨⟨by trivial, i + 1, done, cur ++ [b], v, bl, by omega, by simp, hs, by omega, by simp; omega, hL⟩, by simp; omega⟩
  · have hi : i = l.length := by omega
    subst hi
    rw [List.take_length] at hp
    refine sApp1 eS hL (i := 0) rfl rfl (by simp; omega) (fun w2 v2 bl2 hL hne => ?_)
    refine hK w2 v2 bl2 ?_ (fun k hk => (hL.mine _ (List.mem_singleton.2 rfl) k hk).elim False.elim id) hL.fr
    rw [hp, List.map_append]
    exact hL.row (i := 0) rfl

def digs : Nat → List UInt8 → Option Nat
  | acc, [] => some acc
  | acc, b :: r => if 48 ≤ b.toNat ∧ b.toNat ≤ 57 then digs (10 * acc + (b.toNat - 48)) r else none
def signOf (l : List UInt8) : Bool := l.head? == some 45
def magOf (l : List UInt8) : List UInt8 := if signOf l = true then l.tail else l
/-- the number that digits say -/
def valR (l : List UInt8) : Option Int :=
  if magOf l = [] ∨ 6 < (magOf l).length then none else (digs 0 (magOf l)).map fun (n : Nat) => if signOf l = true then -(n : Int) else (n : Int)
def regR (l : List UInt8) : Option Int := if 2 ≤ l.length ∧ l.length ≤ 3 ∧ l.head? = some 114 then valR l.tail else none

def valV : Option Int → Value
  | some n => .tuple #[it n, .bool true]
  | none => .tuple #[it 0, .bool false]

theorem digs_lt : ∀ (l : List UInt8) (acc n : Nat), digs acc l = some n → n < (acc + 1) * 10 ^ l.length
  | [], acc, n, h => by simp [digs] at h; subst h; simp
  | b :: r, acc, n, h => by
    unfold digs at h
    split at h
    · have := digs_lt r _ n h
      rw [List.length_cons, Nat.pow_succ, Nat.mul_comm (10 ^ r.length) 10, ← Nat.mul_assoc]
      refine Nat.lt_of_lt_of_le this (Nat.mul_le_mul_right _ (by omega))
    · cases h
theorem valR_bound {l : List UInt8} {n : Int} (h : valR l = some n) : -1000000 < n ∧ n < 1000000 := by
  unfold valR at h
  split at h
  · cases h
  · rename_i hc
    obtain ⟨m, h1, h2⟩ := Option.map_eq_some_iff.1 h
    have := digs_lt _ _ _ h1
    have hp : 10 ^ (magOf l).length ≤ 10 ^ 6 := Nat.pow_le_pow_right (by omega) (by omega)
    have h6 : (10 : Nat) ^ 6 = 1000000 := rfl
    split at h2 <;> omega

theorem digs_app : ∀ (l t : List UInt8) (acc u : Nat), digs acc l = some u → digs acc (l ++ t) = digs u t
  | [], t, acc, u, h => by simp only [digs, Option.some.injEq] at h; subst h; rfl
  | c :: r, t, acc, u, h => by
    rw [List.cons_append]
    simp only [digs] at h ⊢
    split at h
    · rename_i h1
      rw [if_pos h1]
      exact digs_app r t _ u h
    · cases h
theorem digs_dec (m : Nat) : digs 0 (Lib.decDigits m) = some m := by
  induction m using Nat.strongRecOn with
  | _ m ih =>
    have last : ∀ u, u = m / 10 → digs u [UInt8.ofNat (48 + m % 10)] = some m := by
      rintro u rfl
      have e := u8_of (48 + m % 10)
      simp only [digs, e]
      rw [if_pos (by omega)]
      congr 1; omega
    rw [dec_step]
    split
    · exact last 0 (by omega)
    · rw [digs_app _ _ 0 (m / 10) (ih (m / 10) (by omega))]
      exact last _ rfl

theorem nDigits_small6 {m : Nat} (h : m < 1000000) : Lib.nDigits m ≤ 6 := by
  by_cases h0 : m < 10
  · rw [Lib.nDigits_small h0]; omega
  have key : ∀ k, 1 ≤ k → k ≤ 5 → 10 ^ k ≤ m → m < 10 ^ (k + 1) → Lib.nDigits m ≤ 6 := by
    intro k h1 h2 h3 h4
    rw [Lib.nDigits_unique k m h3 h4]; omega
  by_cases h1 : m < 100
  · exact key 1 (by omega) (by omega) (by omega) (by omega)
  by_cases h2 : m < 1000
  · exact key 2 (by omega) (by omega) (by omega) (by omega)
  by_cases h3 : m < 10000
  · exact key 3 (by omega) (by omega) (by omega) (by omega)
  by_cases h4 : m < 100000
  · exact key 4 (by omega) (by omega) (by omega) (by omega)
  · exact key 5 (by omega) (by omega) (by omega) (by omega)

theorem valR_itoa {n : Int} (h0 : -1000000 < n) (h1 : n < 1000000) : valR (Lib.itoa n) = some n := by
  by_cases h : n < 0
  · have e := itoa_neg h
    have hs : signOf (Lib.itoa n) = true := by unfold signOf; rw [e]; rfl
    have hm : magOf (Lib.itoa n) = Lib.decDigits n.natAbs := by unfold magOf; rw [if_pos hs, e]; rfl
    unfold valR
    rw [hm, hs, if_neg, digs_dec]
    · simp; omega
    · intro hc
      rcases hc with hc | hc
      · exact dec_ne _ hc
      · rw [Lib.decDigits_length] at hc
        have := nDigits_small6 (m := n.natAbs) (by omega)
        omega
  · have e := itoa_nat h
    have hs : signOf (Lib.itoa n) = false := by
      unfold signOf
      cases hd : Lib.itoa n with
      | nil => exact absurd hd (itoa_ne n)
      | cons b r =>
        have := dec_digit n.toNat b (by rw [← e, hd]; simp)
        have : b ≠ 45 := by rintro rfl; revert this; decide
        simpa using this
    have hm : magOf (Lib.itoa n) = Lib.decDigits n.toNat := by unfold magOf; rw [if_neg (by rw [hs]; decide), e]
    unfold valR
    rw [hm, hs, if_neg, digs_dec]
    · simp; omega
    · intro hc
      rcases hc with hc | hc
      · exact dec_ne _ hc
      · rw [Lib.decDigits_length] at hc
        have := nDigits_small6 (m := n.toNat) (by omega)
        omega

theorem digs_letters {l : List UInt8} {acc : Nat} (hne : l ≠ []) (h : ∀ b ∈ l, 97 ≤ b.toNat) : digs acc l = none := by
  cases l with
  | nil => exact absurd rfl hne
  | cons b r =>
    have := h b (by simp)
    unfold digs
    rw [if_neg (by omega)]
theorem name_letters {l : List UInt8} (h : nameB l = true) : ∀ b ∈ l, 97 ≤ b.toNat := by
  unfold nameB at h
  simp only [Bool.and_eq_true, List.all_eq_true, decide_eq_true_eq] at h
  exact fun b hb => (h.1 b hb).1
theorem valR_name {l : List UInt8} (h : nameB l = true) : valR l = none := by
  have hl := name_letters h
  have hne := name_ne h
  have hs : signOf l = false := by
    unfold signOf
    cases l with
    | nil => rfl
    | cons b r =>
      have := hl b (by simp)
      have : b ≠ 45 := by rintro rfl; revert this; decide
      simpa using this
  unfold valR
  split
  · rfl
  · have hm : magOf l = l := by unfold magOf; rw [if_neg (by rw [hs]; decide)]
    rw [hm, digs_letters hne hl]; rfl

theorem regR_reg {r : Int} (h0 : 0 ≤ r) (h1 : r < 16) : regR (regT r) = some r := by
  have hl : (Lib.itoa r).length = 1 ∨ (Lib.itoa r).length = 2 := by
    rw [itoa_nat (by omega), Lib.decDigits_length]
    by_cases h : r < 10
    · rw [Lib.nDigits_small (by omega)]; exact .inl rfl
    · rw [Lib.nDigits_big (by omega), Lib.nDigits_small (by omega)]; exact .inr rfl
  unfold regR regT
  rw [if_pos (by refine ⟨?_, ?_, rfl⟩ <;> simp <;> omega)]
  exact valR_itoa (by omega) (by omega)
theorem regR_bound {l : List UInt8} {n : Int} (h : regR l = some n) : -1000000 < n ∧ n < 1000000 := by
  unfold regR at h
  split at h
  · exact valR_bound h
  · cases h

theorem rSub8 {a : Nat} (h0 : 48 ≤ a) (h1 : a < 256) {K : Value → Prop} (k : K (.int .u8 ((a - 48 : Nat) : Int))) : vBin (.int .u8) .sub (.int .u8 a) (.int .u8 48) K := by
  refine ⟨rfl, ?_⟩
  have : IntKind.u8.wrap ((a : Int) - 48) = ((a - 48 : Nat) : Int) := by
    have e : IntKind.u8.wrap ((a : Int) - 48) = ((a : Int) - 48) % 256 := by simp [IntKind.wrap, IntKind.signed, IntKind.bits]
    rw [e]; omega
  rw [this]; exact k
theorem rMulI {a b : Int} {K : Value → Prop} (h1 : -9223372036854775808 ≤ a * b) (h2 : a * b < 9223372036854775808) (k : K (it (a * b))) : vBin (.int .i64) .mul (it a) (it b) K :=
  ⟨rfl, by rw [wrap_id h1 h2]; exact k⟩

theorem str_head {l : List UInt8} {b : UInt8} {r : List UInt8} (h : l = b :: r) : l.drop 1 = l.tail := by rw [h]; rfl

/-- gatehouseref02.Value -/
theorem value_spec {w : World} {l : List UInt8} {K : Value → World → Prop} (hl : l.length < 1000000000) (hK : K (valV (valR l)) w) : CallK Tryd.prog 38 #[str l] w K := by
  apply Ret.call
  apply F38_ok
  unfold F38
  refine joinOne (L := [str l, .bool (signOf l)]) (ds := []) (w := w) ?_ ?_
  · refine rLenB <| rGt <| sIfD (fun h => ?_) (fun h => ?_)
    · cases l with
      | nil => simp at h
      | cons b r =>
        refine rIxS (k := 0) (l := b :: r) rfl <| rEq8 ⟨?_, rfl, rfl⟩
        have : ((b.toNat : Int) == 45) = (b == 45) := by
          rw [Bool.eq_iff_iff, beq_iff_eq, beq_iff_eq]
          constructor
          · intro e; exact UInt8.toNat.inj (by have : (45 : UInt8).toNat = 45 := rfl; omega)
          · rintro rfl; rfl
        simp [signOf, this]
    · have : l = [] := List.length_eq_zero_iff.1 (by omega)
      subst this
      exact ⟨rfl, rfl, rfl⟩
  intro ρ hρ
  simp only [List.map_cons, List.map_nil, List.cons.injEq, and_true] at hρ
  obtain ⟨e0, e4⟩ := hρ
  unfold F38J1
  simp only [e0, e4]
  have main : ∀ q : Bool, (q = true ↔ (magOf l = [] ∨ 6 < (magOf l).length)) → ∀ ρ : Env, [0, 4, 25].map ρ = [str (magOf l), .bool (signOf l), .bool q] → F38J3 K ρ [] w := by
    intro q hq ρ hρ
    simp only [List.map_cons, List.map_nil, List.cons.injEq, and_true] at hρ
    obtain ⟨e0, e4, e25⟩ := hρ
    unfold F38J3
    simp only [e0, e4, e25]
    unfold valR at hK
    refine sIf (fun h => ?_) (fun h => ?_)
    · rw [if_pos (hq.1 h)] at hK
      exact hK
    have hn : ¬ (magOf l = [] ∨ 6 < (magOf l).length) := fun hc => by rw [hq.2 hc] at h; cases h
    rw [if_neg hn] at hK
    refine ⟨fun vs ds W => ds = [] ∧ W = w ∧ ∃ (i acc : Nat), i ≤ (magOf l).length ∧ vs = [str (magOf l), .bool (signOf l), it acc, it i] ∧ digs 0 (magOf l) = digs acc ((magOf l).drop i) ∧ acc < 10 ^ i,
      fun vs _ _ => match vs with | [_, _, _, .int _ i] => (magOf l).length - i.toNat | _ => 0, ⟨rfl, rfl, 0, 0, by omega, rfl, rfl, by simp⟩, ?_⟩
    rintro ρ ds W ⟨rfl, rfl, i, acc, hi, hρ, hd, hacc⟩
    rw [hρ]
    simp only [List.map_cons, List.map_nil, List.cons.injEq, and_true] at hρ
    obtain ⟨e0, e4, e5, e6⟩ := hρ
    unfold F38L1
    simp only [e0, e4, e5, e6]
    have hp : 10 ^ i ≤ 10 ^ 6 := Nat.pow_le_pow_right (by omega) (by omega)
    have h6 : (10 : Nat) ^ 6 = 1000000 := rfl
    refine rLenB <| rLt <| sIfD (fun hlt => ?_) (fun hge => ?_)
    · obtain ⟨b, hb⟩ : ∃ b, (magOf l)[i]? = some b := ⟨_, List.getElem?_eq_getElem (by omega)⟩
      have hdrop : (magOf l).drop i = b :: (magOf l).drop (i + 1) := by
        have hlt : i < (magOf l).length := by omega
        rw [List.drop_eq_getElem_cons hlt]
        congr 1
        rw [List.getElem?_eq_getElem hlt] at hb
        exact Option.some.inj hb
      rw [hdrop, digs] at hd
      have hb8 := b.toNat_lt
      refine rIxS hb <| rLt8 <| sIfD (fun h => ?_) (fun h => ?_)
      · rw [if_neg (by omega)] at hd
        rw [hd] at hK
        exact hK
      refine rIxS hb <| rGt8 <| sIfD (fun h2 => ?_) (fun h2 => ?_)
      · rw [if_neg (by omega)] at hd
        rw [hd] at hK
        exact hK
      rw [if_pos (by omega)] at hd
      refine rMulI (by omega) (by omega) ?_
      refine rIxS hb <| rSub8 (by omega) (by omega) <| sCv ?_
      rw [wrap_id (by omega) (by omega)]
      refine rAdd (by omega) (by omega) <| rAdd (by omega) (by omega) ⟨⟨by trivial, by trivial, i + 1, 10 * acc + (b.toNat - 48), by omega, by simp, hd, ?_⟩, by simp; omega⟩
      rw [Nat.pow_succ]; omega
    · have hi : i = (magOf l).length := by omega
      subst hi
      rw [List.drop_length, digs] at hd
      rw [hd] at hK
      refine sIf (fun h => ?_) (fun h => ?_)
      · simp only [Option.map_some, h, if_true] at hK
        show (fun v52 => leaveV [] W fun W => K (.tuple #[v52, .bool true]) W) (it (IntKind.i64.wrap (0 - (acc : Int))))
        rw [wrap_id (by omega) (by omega)]
        have : (0 : Int) - acc = -(acc : Int) := by omega
        rw [this]
        exact hK
      · simp only [Option.map_some, h] at hK
        exact hK
  have lastq : ∀ (m : List UInt8), m = magOf l → joinF [0, 4, 25] (fun J3 => vLen .string (str m) fun v19 => vBin (.int .i64) .eql v19 (.int .i64 0) fun v20 => vBool v20 fun g => if g = true then (J3 [str m, .bool (signOf l), .bool true] [] w) else (vLen .string (str m) fun v23 => vBin (.int .i64) .gtr v23 (.int .i64 6) fun v24 => J3 [str m, .bool (signOf l), v24] [] w)) (F38J3 K) := by
    rintro m rfl
    refine sJoin ?_
    refine rLenB <| rEq <| sIfE (fun h => ?_) (fun h => ?_)
    · exact main true ⟨fun _ => .inl (List.length_eq_zero_iff.1 (by omega)), fun _ => rfl⟩
    · refine rLenB <| rGt ?_
      exact main (decide ((6 : Int) < (magOf l).length)) (by
        rw [decide_eq_true_eq]
        constructor
        · intro h; exact .inr (by omega)
        · rintro (h2 | h2)
          · rw [h2] at h; simp at h
          · omega)
  refine sIf (fun h => ?_) (fun h => ?_)
  · have hm : magOf l = l.drop 1 := by
      unfold magOf; rw [if_pos h]; cases l <;> rfl
    have hlen : 1 ≤ l.length := by
      cases l with
      | nil => simp [signOf] at h
      | cons b r => simp
    refine rSlStrLo (i := 1) hlen ?_
    exact lastq _ hm.symm
  · have hm : magOf l = l := by unfold magOf; rw [if_neg (by rw [h]; decide)]
    exact lastq _ hm.symm

/-- gatehouseref02.register -/
theorem register_spec {w : World} {l : List UInt8} {K : Value → World → Prop} (hl : l.length < 1000000000) (hK : K (valV (regR l)) w) : CallK Tryd.prog 37 #[str l] w K := by
  apply Ret.call
  apply F37_ok
  unfold F37
  unfold regR at hK
  refine rLenB <| rLt <| sIfD (fun h => ?_) (fun h => ?_)
  · rw [if_neg (by omega)] at hK; exact hK
  refine rLenB <| rGt <| sIfD (fun h2 => ?_) (fun h2 => ?_)
  · rw [if_neg (by omega)] at hK; exact hK
  cases l with
  | nil => simp at h
  | cons b r =>
    have h114 : ((114 : UInt8).toNat) = 114 := rfl
    refine rIxS (k := 0) (l := b :: r) rfl <| rNe8 <| sIfNE (fun h3 => ?_) (fun h3 => ?_)
    · rw [if_neg (fun hc => h3 (by have : b = 114 := by simpa using hc.2.2
                                   rw [this]; rfl))] at hK
      exact hK
    · have hb : b = 114 := UInt8.toNat.inj (by omega)
      rw [if_pos ⟨by omega, by omega, by rw [hb]; rfl⟩] at hK
      refine rSlStrLo (i := 1) (l := b :: r) (by simp) ?_
      refine value_spec (by simp at hl ⊢; omega) ?_
      show (fun v19 w => vExt v19 0 fun v20 => vExt v19 1 fun v21 => K (.tuple #[v20, v21]) w) (valV (valR r)) w
      have hK : K (valV (valR r)) w := hK
      cases hv : valR r with
      | none => rw [hv] at hK; exact hK
      | some n => rw [hv] at hK; exact hK

end Go.Proofs.YtnmmpgeojimgoaaDoor
