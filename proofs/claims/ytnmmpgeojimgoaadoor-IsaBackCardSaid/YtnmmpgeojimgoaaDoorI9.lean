/-
  Isa, part 9: what texts say, without the program: parts, numbers, instructions. Own work.
-/
import Derived.Test.YtnmmpgeojimgoaaDoorI8
import Derived.Lib.AtoiAllCases
set_option linter.unusedVariables false
set_option linter.unusedSimpArgs false
set_option maxRecDepth 100000
namespace Go.Proofs.YtnmmpgeojimgoaaDoor
open Go Go.V Go.RowKit

theorem parts_app {c : UInt8} {t : List UInt8} : ∀ {x : List UInt8}, c ∉ x → parts c (x ++ c :: t) = x :: parts c t
  | [], _ => by simp [parts]
  | b :: x, h => by
    have hb : b ≠ c := fun e => h (by simp [e])
    rw [List.cons_append, parts, if_neg hb, parts_app (fun hx => h (by simp [hx]))]
theorem parts_one {c : UInt8} : ∀ {x : List UInt8}, c ∉ x → parts c x = [x]
  | [], _ => rfl
  | b :: x, h => by
    have hb : b ≠ c := fun e => h (by simp [e])
    rw [parts, if_neg hb, parts_one (fun hx => h (by simp [hx]))]
theorem parts_join {c : UInt8} : ∀ {ws : List (List UInt8)}, ws ≠ [] → (∀ x ∈ ws, c ∉ x) → parts c (Lib.join ws [c]) = ws
  | [], h, _ => absurd rfl h
  | [x], _, h => by rw [Lib.join_one]; exact parts_one (h x (by simp))
  | x :: y :: r, _, h => by
    have ih := parts_join (c := c) (ws := y :: r) (by simp) (fun z hz => h z (by simp [hz]))
    rw [Lib.join_cons] at ih ⊢
    have e : Lib.joinTail [c] (y :: r) = c :: (y ++ Lib.joinTail [c] r) := by simp [Lib.joinTail]
    rw [e, parts_app (h x (by simp)), ih]
theorem join_parts (c : UInt8) : ∀ (l : List UInt8), Lib.join (parts c l) [c] = l
  | [] => rfl
  | b :: r => by
    have ih := join_parts c r
    unfold parts
    split
    · rename_i e; subst e
      rw [Lib.join_cons]
      cases hp : parts b r with
      | nil => exact absurd hp (parts_ne _ _)
      | cons y ys =>
        rw [hp, Lib.join_cons] at ih
        rw [← ih]; simp [Lib.joinTail]
    · cases hp : parts c r with
      | nil => exact absurd hp (parts_ne _ _)
      | cons y ys =>
        simp only
        rw [hp] at ih
        rw [Lib.join_cons] at ih ⊢
        rw [List.cons_append, ih]

theorem dec_digit (m : Nat) : ∀ b ∈ Lib.decDigits m, 48 ≤ b.toNat ∧ b.toNat ≤ 57 := by
  induction m using Nat.strongRecOn with
  | _ m ih =>
    rw [dec_step]
    intro b hb
    rcases List.mem_append.1 hb with h | h
    · split at h
      · simp at h
      · exact ih (m / 10) (by omega) b h
    · rw [List.mem_singleton.1 h, u8_of]; omega
theorem dec_ne (m : Nat) : Lib.decDigits m ≠ [] := by rw [dec_step]; simp

theorem parse_app : ∀ (l t : List UInt8) (acc u : Nat), Lib.parseUint10 acc l = .ok u → Lib.parseUint10 acc (l ++ t) = Lib.parseUint10 u t
  | [], t, acc, u, h => by simp only [Lib.parseUint10, Lib.NumEnd.ok.injEq] at h; subst h; rfl
  | c :: r, t, acc, u, h => by
    rw [List.cons_append]
    simp only [Lib.parseUint10] at h ⊢
    split at h
    · rename_i h1
      rw [if_pos h1]
      split at h
      · cases h
      · rename_i h2
        rw [if_neg h2]
        split at h
        · cases h
        · rename_i h3
          rw [if_neg h3]
          exact parse_app r t _ u h
    · cases h
theorem parse_dec (m : Nat) : m < 1000000000 → Lib.parseUint10 0 (Lib.decDigits m) = .ok m := by
  induction m using Nat.strongRecOn with
  | _ m ih =>
    intro hm
    have last : ∀ u, u = m / 10 → Lib.parseUint10 u [UInt8.ofNat (48 + m % 10)] = .ok m := by
      rintro u rfl
      have e := u8_of (48 + m % 10)
      simp only [Lib.parseUint10, e]
      rw [if_pos (by omega), if_neg (by omega), if_neg (by omega)]
      congr 1; omega
    rw [dec_step]
    split
    · exact last 0 (by omega)
    · rw [parse_app _ _ 0 (m / 10) (ih (m / 10) (by omega) (by omega))]
      exact last _ rfl

theorem itoa_neg {n : Int} (h : n < 0) : Lib.itoa n = 45 :: Lib.decDigits n.natAbs := by unfold Lib.itoa; rw [if_pos h]
theorem itoa_nat {n : Int} (h : ¬ n < 0) : Lib.itoa n = Lib.decDigits n.toNat := by unfold Lib.itoa; rw [if_neg h]
theorem itoa_ne (n : Int) : Lib.itoa n ≠ [] := by
  by_cases h : n < 0
  · rw [itoa_neg h]; simp
  · rw [itoa_nat h]; exact dec_ne _
theorem itoa_byte (n : Int) : ∀ b ∈ Lib.itoa n, b.toNat = 45 ∨ (48 ≤ b.toNat ∧ b.toNat ≤ 57) := by
  by_cases h : n < 0
  · rw [itoa_neg h]
    intro b hb
    rcases List.mem_cons.1 hb with rfl | hb
    · exact .inl rfl
    · exact .inr (dec_digit _ b hb)
  · rw [itoa_nat h]; exact fun b hb => .inr (dec_digit _ b hb)
theorem itoa_no {n : Int} {c : UInt8} (h : c.toNat < 45) : c ∉ Lib.itoa n := fun hc => by
  have := itoa_byte n c hc; omega

theorem atoi_itoa {n : Int} (h0 : -1000000000 < n) (h1 : n < 1000000000) : Lib.atoiAll (Lib.itoa n) = .ok n := by
  by_cases h : n < 0
  · rw [itoa_neg h, Lib.atoiAll_minus]
    unfold Lib.parseMag
    rw [if_neg (dec_ne _), parse_dec _ (by omega)]
    simp only [Lib.signed]
    rw [if_neg (by omega)]
    congr 1; omega
  · rw [itoa_nat h]
    cases hd : Lib.decDigits n.toNat with
    | nil => exact absurd hd (dec_ne _)
    | cons c r =>
      have hc := dec_digit n.toNat c (by rw [hd]; simp)
      rw [Lib.atoiAll_plain c r (by omega) (by omega), ← hd]
      unfold Lib.parseMag
      rw [if_neg (dec_ne _), parse_dec _ (by omega)]
      simp only [Lib.signless]
      rw [if_neg (by omega)]
      congr 1; omega
theorem itoa_inj {m n : Int} (h0 : -1000000000 < n) (h1 : n < 1000000000) (g0 : -1000000000 < m) (g1 : m < 1000000000) (e : Lib.itoa m = Lib.itoa n) : m = n := by
  have := atoi_itoa h0 h1
  rw [← e, atoi_itoa g0 g1] at this
  injection this

theorem opName_no {op : Int} {c : UInt8} (h : c.toNat < 97) : c ∉ opName op := by
  by_cases ho : 0 ≤ op ∧ op < 27
  · have hin := opName_in ho.1 ho.2
    have hall : ∀ l ∈ opNames, ∀ b ∈ l, 97 ≤ b.toNat := by decide
    intro hc
    have := hall _ (List.mem_of_getElem? hin) c hc
    omega
  · rw [opName_out (by omega)]; simp
theorem opName_inj {a b : Int} (ha : 0 ≤ a ∧ a < 27) (hb : 0 ≤ b ∧ b < 27) (h : opName a = opName b) : a = b := by
  have h1 := opName_in ha.1 ha.2
  have h2 := opName_in hb.1 hb.2
  rw [h] at h1
  have key : ∀ i j : Fin 27, opNames[i.val]? = opNames[j.val]? → i = j := by decide
  have := key ⟨a.toNat, by omega⟩ ⟨b.toNat, by omega⟩ (by simp only; rw [h1, h2])
  have := congrArg Fin.val this
  simp only at this
  omega

theorem txtWords_no {x : Cd} {c : UInt8} (h : c.toNat < 45) : ∀ y ∈ txtWords x, c ∉ y := by
  intro y hy
  unfold txtWords at hy
  rcases List.mem_append.1 hy with hy | hy
  · rcases List.mem_cons.1 hy with rfl | hy
    · exact opName_no (by omega)
    · obtain ⟨r, _, rfl⟩ := List.mem_map.1 hy
      intro hc
      rcases List.mem_cons.1 hc with e | hc
      · rw [e] at h; revert h; decide
      · exact itoa_no h hc
  · split at hy
    · simp at hy
    · rw [List.mem_singleton.1 hy]; exact itoa_no h
theorem txtWords_ne (x : Cd) : txtWords x ≠ [] := by unfold txtWords; simp
theorem parts_txt (x : Cd) : parts 32 (txt x) = txtWords x := parts_join (txtWords_ne x) (txtWords_no (by decide))

/-- the registers beyond those of the shape are nought -/
def restZ (x : Cd) : Prop := (shRegs x.op ≤ 0 → x.a = 0) ∧ (shRegs x.op ≤ 1 → x.b = 0) ∧ (shRegs x.op ≤ 2 → x.c = 0)

theorem right_iff (x : Cd) : rightB x = true ↔ (0 ≤ x.op ∧ x.op < 27) ∧ fitsN (shNum x.op) x.n = true ∧ (∀ r ∈ regsOf x, 0 ≤ r ∧ r < 16) ∧ restZ x := by
  unfold rightB restZ regsOf regOk
  simp only [Bool.and_eq_true, decide_eq_true_eq]
  rcases shRegs_cases x.op with e | e | e | e <;> rw [e] <;> simp <;> constructor <;> intro h <;> simp_all

theorem cd_eq {x y : Cd} (h1 : x.op = y.op) (h2 : regsOf x = regsOf y) (h3 : restZ x) (h4 : restZ y) (h5 : x.n = y.n) : x = y := by
  unfold restZ at h3 h4
  unfold regsOf at h2
  rw [h1] at h2 h3
  obtain ⟨op, a, b, c, n⟩ := x
  obtain ⟨op', a', b', c', n'⟩ := y
  simp only at *
  subst h1; subst h5
  rcases shRegs_cases op with e | e | e | e <;> rw [e] at h2 h3 h4 <;> simp at h2 h3 h4 <;> simp [*]

/-- what an instruction's text says ahead of its number -/
structure Reads (l : List UInt8) (x : Cd) (num : List UInt8) : Prop where
  op : 0 ≤ x.op ∧ x.op < 27
  n : x.n = 0
  words : parts 32 l = opName x.op :: (regsOf x).map regT ++ if shNum x.op = 0 then [] else [num]
  regs : ∀ r ∈ regsOf x, 0 ≤ r ∧ r < 16
  rest : restZ x
  num : shNum x.op = 0 → num = []

theorem map_regT_inj : ∀ {rs ts : List Int}, (∀ r ∈ rs, 0 ≤ r ∧ r < 16) → (∀ r ∈ ts, 0 ≤ r ∧ r < 16) → rs.map regT = ts.map regT → rs = ts
  | [], [], _, _, _ => rfl
  | [], t :: ts, _, _, h => by simp at h
  | r :: rs, [], _, _, h => by simp at h
  | r :: rs, t :: ts, h1, h2, h => by
    simp only [List.map_cons, List.cons.injEq] at h
    have a := h1 r (by simp)
    have b := h2 t (by simp)
    have e : r = t := by
      have := h.1
      unfold regT at this
      exact itoa_inj (by omega) (by omega) (by omega) (by omega) (List.cons.inj this).2
    rw [e, map_regT_inj (fun z hz => h1 z (by simp [hz])) (fun z hz => h2 z (by simp [hz])) h.2]

theorem regsOf_len {x y : Cd} (h : x.op = y.op) : (regsOf x).length = (regsOf y).length := by
  unfold regsOf; rw [h]; simp

theorem Reads.uniq {l : List UInt8} {x y : Cd} {m n : List UInt8} (h : Reads l x m) (k : Reads l y n) : x = y ∧ m = n := by
  have hw := h.words.symm.trans k.words
  have hop : x.op = y.op := opName_inj h.op k.op (by injection hw)
  have hw2 : (regsOf x).map regT ++ (if shNum x.op = 0 then [] else [m]) = (regsOf y).map regT ++ (if shNum y.op = 0 then [] else [n]) := by
    have := (List.cons.inj (by simpa using hw)).2
    simpa using this
  have hl : ((regsOf x).map regT).length = ((regsOf y).map regT).length := by rw [List.length_map, List.length_map, regsOf_len hop]
  obtain ⟨e1, e2⟩ := List.append_inj hw2 hl
  refine ⟨cd_eq hop (map_regT_inj h.regs k.regs e1) h.rest k.rest (by rw [h.n, k.n]), ?_⟩
  by_cases h0 : shNum x.op = 0
  · rw [h.num h0, k.num (by rw [← hop]; exact h0)]
  · rw [if_neg h0, if_neg (by rw [← hop]; exact h0)] at e2
    simpa using e2

/-- a right instruction's text reads as it, but for the number -/
theorem reads_txt {x : Cd} (h : rightB x = true) : Reads (txt x) { x with n := 0 } (if shNum x.op = 0 then [] else Lib.itoa x.n) := by
  obtain ⟨h1, h2, h3, h4⟩ := (right_iff x).1 h
  refine ⟨h1, rfl, ?_, h3, h4, fun h0 => by rw [if_pos h0]⟩
  rw [parts_txt]
  unfold txtWords
  congr 1
  simp only
  by_cases h0 : shNum x.op = 0
  · rw [if_pos h0, if_pos h0]
  · rw [if_neg h0, if_neg h0, if_neg h0]

theorem txt_inj {x y : Cd} (hx : rightB x = true) (hy : rightB y = true) (h : txt x = txt y) : x = y := by
  have r1 := reads_txt hx
  have r2 := reads_txt hy
  rw [h] at r1
  obtain ⟨e1, e2⟩ := r1.uniq r2
  simp only [Cd.mk.injEq] at e1
  have ho : x.op = y.op := e1.1
  have b1 := right_n hx
  have b2 := right_n hy
  have hn : x.n = y.n := by
    by_cases h0 : shNum x.op = 0
    · have f1 := ((right_iff x).1 hx).2.1
      have f2 := ((right_iff y).1 hy).2.1
      rw [← ho, h0] at f2
      rw [h0] at f1
      simp [fitsN] at f1 f2
      omega
    · rw [if_neg h0, if_neg (by rw [← ho]; exact h0)] at e2
      exact itoa_inj (by omega) (by omega) (by omega) (by omega) e2
  cases x; cases y
  simp only [Cd.mk.injEq] at ⊢
  simp only at hn e1
  exact ⟨e1.1, e1.2.1, e1.2.2.1, e1.2.2.2.1, hn⟩

/-- the instruction that a text is -/
def Says (l : List UInt8) (x : Cd) : Prop := rightB x = true ∧ txt x = l

theorem Says.uniq {l : List UInt8} {x y : Cd} (h : Says l x) (k : Says l y) : x = y := txt_inj h.1 k.1 (h.2.trans k.2.symm)

end Go.Proofs.YtnmmpgeojimgoaaDoor
