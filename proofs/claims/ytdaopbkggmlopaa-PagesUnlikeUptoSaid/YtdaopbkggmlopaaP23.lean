/-
  Pages, part 23: the document's Write and Resize. Own work.
-/
import Derived.Test.YtdaopbkggmlopaaP22
set_option linter.unusedVariables false
set_option linter.unusedSimpArgs false
namespace Go.Proofs.Ytdaopbkggmlopaa
open Go Go.V Go.RowKit

def cont (l : List UInt8) (i : Nat) : UInt8 := (l[i]?).getD 0

theorem cont_zero (l : List UInt8) : ∀ i, l.length ≤ i → cont l i = 0 := fun i hi => by unfold cont; rw [List.getElem?_eq_none hi]; rfl

theorem seg_cont (l : List UInt8) (a k : Nat) (h : a + k ≤ l.length) : seg (cont l) a k = (l.drop a).take k := by
  apply List.ext_getElem?
  intro i
  rw [seg_get, List.getElem?_take]
  split
  · rw [List.getElem?_drop]
    unfold cont
    rw [List.getElem?_eq_getElem (by omega)]; rfl
  · rfl

theorem seg_cont_all (l : List UInt8) : seg (cont l) 0 l.length = l := by
  rw [seg_cont l 0 l.length (by omega)]; simp

def wrl (l : List UInt8) (a : Nat) (s : List UInt8) : List UInt8 := l.take a ++ s ++ l.drop (a + s.length)
def rsl (l : List UInt8) (m : Nat) : List UInt8 := l.take m ++ List.replicate (m - l.length) 0

theorem wrl_len {l s : List UInt8} {a : Nat} (h : a + s.length ≤ l.length) : (wrl l a s).length = l.length := by simp [wrl]; omega
theorem rsl_len (l : List UInt8) (m : Nat) : (rsl l m).length = m := by simp [rsl]; omega

theorem wrl_get {l s : List UInt8} {a : Nat} (h : a + s.length ≤ l.length) (i : Nat) : (wrl l a s)[i]? = if a ≤ i ∧ i < a + s.length then s[i - a]? else l[i]? := by
  unfold wrl
  rw [List.append_assoc]
  have ht : (l.take a).length = a := by simp; omega
  by_cases h1 : i < a
  · rw [List.getElem?_append_left (by omega), List.getElem?_take, if_pos h1, if_neg (by omega)]
  · rw [List.getElem?_append_right (by omega), ht]
    by_cases h2 : i < a + s.length
    · rw [List.getElem?_append_left (by omega), if_pos (by omega)]
    · rw [List.getElem?_append_right (by omega), if_neg (by omega), List.getElem?_drop]
      congr 1; omega

theorem rsl_get (l : List UInt8) (m i : Nat) : (rsl l m)[i]? = if i < m then some (cont l i) else none := by
  unfold rsl cont
  have ht : (l.take m).length = min m l.length := by simp
  by_cases h1 : i < min m l.length
  · rw [List.getElem?_append_left (by omega), List.getElem?_take, if_pos (by omega), if_pos (by omega), List.getElem?_eq_getElem (by omega)]; rfl
  · rw [List.getElem?_append_right (by omega), ht, List.getElem?_replicate]
    by_cases h2 : i < m
    · rw [if_pos (by omega), if_pos h2, List.getElem?_eq_none (by omega)]; rfl
    · rw [if_neg (by omega), if_neg h2]

theorem cont_wrl {l s : List UInt8} {a : Nat} (h : a + s.length ≤ l.length) : wrc (cont l) a s = cont (wrl l a s) := by
  funext i
  unfold wrc cont
  rw [wrl_get h]
  by_cases h1 : a ≤ i
  · by_cases h2 : i < a + s.length
    · rw [if_pos h1, if_pos ⟨h1, h2⟩, List.getElem?_eq_getElem (by omega)]; rfl
    · rw [if_pos h1, if_neg (by omega), List.getElem?_eq_none (l := s) (by omega)]; rfl
  · rw [if_neg h1, if_neg (by omega)]

theorem cont_rsl (l : List UInt8) (m : Nat) : (fun i => if i < m then cont l i else 0) = cont (rsl l m) := by
  funext i
  conv => rhs; unfold cont
  rw [rsl_get]
  split <;> rfl

theorem wrl_set {l s : List UInt8} {a i : Nat} {x : UInt8} (h : a + s.length ≤ l.length) (hx : s[i]? = some x) : (wrl l a (s.take i)).set (a + i) x = wrl l a (s.take (i + 1)) := by
  have hi := (List.getElem?_eq_some_iff.1 hx).1
  have l1 : (s.take i).length = i := by simp; omega
  have l2 : (s.take (i + 1)).length = i + 1 := by simp; omega
  apply List.ext_getElem?
  intro j
  rw [List.getElem?_set, wrl_get (by omega), wrl_get (by omega), wrl_len (by omega), l1, l2]
  by_cases h1 : a + i = j
  · subst h1
    rw [if_pos rfl, if_pos (by omega), if_pos (by omega), List.getElem?_take, if_pos (by omega), Nat.add_sub_cancel_left, hx]
  · rw [if_neg h1]
    by_cases h2 : a ≤ j ∧ j < a + i
    · rw [if_pos h2, if_pos (by omega), List.getElem?_take, List.getElem?_take, if_pos (by omega), if_pos (by omega)]
    · rw [if_neg h2, if_neg (by omega)]

theorem wrl_nil {l : List UInt8} {a : Nat} : wrl l a [] = l := by simp [wrl]

theorem rsl_set {l : List UInt8} {n i : Nat} {x : UInt8} (hx : l[i]? = some x) (hn : i < n) : (rsl (l.take i) n).set i x = rsl (l.take (i + 1)) n := by
  have hi := (List.getElem?_eq_some_iff.1 hx).1
  apply List.ext_getElem?
  intro j
  rw [List.getElem?_set, rsl_get, rsl_get, rsl_len]
  unfold cont
  rw [List.getElem?_take, List.getElem?_take]
  by_cases h1 : i = j
  · subst h1
    rw [if_pos rfl, if_pos hn, if_pos hn, if_pos (by omega), hx]; rfl
  · rw [if_neg h1]
    by_cases h2 : j < i
    · rw [if_pos h2, if_pos (by omega : j < i + 1)]
    · rw [if_neg h2, if_neg (by omega : ¬ j < i + 1)]

theorem rsl_take (l : List UInt8) (n : Nat) : rsl (l.take (min n l.length)) n = rsl l n := by
  apply List.ext_getElem?
  intro j
  rw [rsl_get, rsl_get]
  unfold cont
  rw [List.getElem?_take]
  by_cases h : j < n
  · rw [if_pos h, if_pos h]
    by_cases h2 : j < l.length
    · rw [if_pos (by omega)]
    · rw [if_neg (by omega), List.getElem?_eq_none (by omega)]
  · rw [if_neg h, if_neg h]

theorem b62 : Try.prog.underlying 38 = some (.slice 5) := t38

theorem bts_rep (n : Nat) : repZ [Value.int .u8 0] n = bts (List.replicate n 0) := by
  unfold repZ bts
  induction n with
  | zero => rfl
  | succ n ih => simp [List.replicate_succ] at ih ⊢

theorem mk38 {w : World} {n : Nat} {kd1 kd2 : IntKind} {K : Value → World → Prop} (hn : n ≤ 4194304) (hK : ∀ w' v, Bs w' v (List.replicate n 0) (some w.heap.size) → Fr (fun _ => False) w w' → w'.heap.size = w.heap.size + 1 → K v w') :
    vMakeSlice Try.prog 38 (.int kd1 n) (.int kd2 n) w K := by
  obtain ⟨i, hi1, hi2, hi3⟩ := i5
  unfold vMakeSlice
  simp only [t38, z5, hi1, hi3]
  refine ⟨by omega, by omega, by omega, by omega, hi2.symm, ?_⟩
  rw [Int.toNat_natCast, bts_rep]
  refine hK _ _ ⟨[], ?_, ?_⟩ ((Fr.refl _ w).alloc _) (by simp)
  · simp [bts]
  · rw [List.append_nil]
    exact Cs.new _ _ 5

/-- ref.Write -/
theorem write31 {w : World} {v : Value} {l s : List UInt8} {bl : Option Nat} {a : Int} {K : Value → World → Prop} (h : Bs w v l bl) (hl : l.length ≤ 1048576) (hs : s.length ≤ 1048576)
    (ha1 : -9223372036854775808 ≤ a) (ha2 : a < 9223372036854775808)
    (hbad : fitsE l.length a s.length = 9 → K (.tuple #[v, it 9]) w)
    (hok : ∀ A : Nat, a = A → A + s.length ≤ l.length → ∀ w' v' q, Bs w' v' (wrl l A s) (some q) → Fr (fun _ => False) w w' → w.heap.size ≤ q → K (.tuple #[v', it 0]) w') : CallK Try.prog 31 #[v, it a, str s] w K := by
  apply Ret.call
  apply F31_ok
  unfold F31
  refine rLenB <| fits40 h hl ha1 ha2 ?_
  rcases fitsE_cases l.length a s.length with e | e
  · obtain ⟨A, k, rfl, hk, hak⟩ := fitsE_nat e
    have hk : s.length = k := by omega
    subst hk
    rw [e]
    refine rNot (b := true) <| rIfF <| bs38_0 ?_
    intro w1 c1 f1 s1
    have hs0 : Bs w1 (sv w.heap.size 0 0) [] (some w.heap.size) := ⟨[], rfl, c1⟩
    refine Bs.app k38 hs0 (h.more f1).src (by simp; omega) ?_
    intro w2 v2 bl2 h2 f2 hb2 hne
    have hne := hne (by simp)
    obtain ⟨q, rfl⟩ := Option.ne_none_iff_exists'.1 hne
    have hq : w.heap.size ≤ q := by
      rcases hb2 q rfl with e | e
      · simp at e; omega
      · omega
    have f02 : Fr (fun _ => False) w w2 := f1.trans f2 (fun x hx e => by simp at e; omega)
    rw [List.nil_append] at h2
    refine ⟨fun vs ds W => ds = [] ∧ ∃ i : Nat, i ≤ s.length ∧ vs = [it A, str s, v2, it i] ∧ Bs W v2 (wrl l A (s.take i)) (some q) ∧ Fr (fun _ => False) w W,
      fun vs _ _ => match vs with | [_, _, _, .int _ i] => s.length - i.toNat | _ => 0, ⟨rfl, 0, by omega, rfl, by simpa [wrl_nil] using h2, f02⟩, ?_⟩
    rintro ρ ds W ⟨rfl, i, hi, hρ, hB, fr⟩
    have hρ0 := hρ
    simp only [List.map_cons, List.map_nil, List.cons.injEq, and_true] at hρ
    obtain ⟨e1, e2, e8, e9⟩ := hρ
    unfold F31L1
    rw [hρ0, e1, e2, e8, e9]
    refine rLenB <| rLt <| rIf (fun hlt => ?_) (fun hge => ?_)
    · have hlt : i < s.length := by simpa using hlt
      refine rAdd (by omega) (by omega) ?_
      have ea : (A : Int) + (i : Int) = ((A + i : Nat) : Int) := by omega
      rw [ea]
      refine rIxS (List.getElem?_eq_getElem hlt) ?_
      refine hB.write (i := A + i) (x := s[i]) (by rw [wrl_len (by simp; omega)]; omega) ?_
      intro w4 h4 f4 s4
      refine rAdd (by omega) (by omega) ?_
      have ei : (i : Int) + 1 = ((i + 1 : Nat) : Int) := by omega
      rw [ei]
      rw [wrl_set hak (List.getElem?_eq_getElem hlt)] at h4
      have hqW : w.heap.size ≤ q := hq
      refine ⟨⟨rfl, i + 1, by omega, rfl, h4, fr.trans f4 (fun x hx e => by omega)⟩, ?_⟩
      show s.length - ((i + 1 : Nat) : Int).toNat < s.length - ((i : Nat) : Int).toNat
      simp; omega
    · have hi : i = s.length := by
        have : ¬ i < s.length := by simpa using hge
        omega
      subst hi
      rw [List.take_length] at hB
      exact hok A rfl hak W v2 q hB fr hq
  · rw [e]
    exact rNot (b := false) <| rIfT (hbad e)

/-- ref.Resize -/
theorem resize33 {w : World} {v : Value} {l : List UInt8} {bl : Option Nat} {n : Int} {K : Value → World → Prop} (h : Bs w v l bl) (hl : l.length ≤ 1048576)
    (hbad : n < 0 ∨ 4096 < n → K (.tuple #[v, it 1]) w)
    (hok : ∀ m : Nat, n = m → m ≤ 4096 → ∀ w' v', Bs w' v' (rsl l m) (some w.heap.size) → Fr (fun _ => False) w w' → K (.tuple #[v', it 0]) w') : CallK Try.prog 33 #[v, it n] w K := by
  apply Ret.call
  apply F33_ok
  unfold F33
  refine size14 ?_
  by_cases hn : 0 ≤ n ∧ n ≤ 4096
  · have hd : decide (0 ≤ n ∧ n ≤ 4096) = true := decide_eq_true hn
    rw [hd]
    obtain ⟨m, rfl⟩ := Int.eq_ofNat_of_zero_le hn.1
    have hm : m ≤ 4096 := by omega
    refine rNot (b := true) <| rIfF <| mk38 (by omega) ?_
    intro w1 v1 h1 f1 s1
    have hz : List.replicate m (0 : UInt8) = rsl (l.take 0) m := by simp [rsl]
    rw [hz] at h1
    refine ⟨fun vs ds W => ds = [] ∧ ∃ i : Nat, i ≤ min m l.length ∧ vs = [v, it m, v1, it i] ∧ Bs W v1 (rsl (l.take i) m) (some w.heap.size) ∧ Fr (fun _ => False) w W,
      fun vs _ _ => match vs with | [_, _, _, .int _ i] => m - i.toNat | _ => 0, ⟨rfl, 0, by omega, rfl, h1, f1⟩, ?_⟩
    rintro ρ ds W ⟨rfl, i, hi, hρ, hB, fr⟩
    have hρ0 := hρ
    simp only [List.map_cons, List.map_nil, List.cons.injEq, and_true] at hρ
    obtain ⟨e0, e1, e6, e7⟩ := hρ
    unfold F33L1
    rw [hρ0, e0, e1, e6, e7]
    have fin : i = min m l.length → K (.tuple #[v1, it 0]) W := by
      intro e
      subst e
      rw [rsl_take] at hB
      exact hok m rfl hm W v1 hB fr
    refine rLt <| rIf (fun hlt => ?_) (fun hge => ?_)
    · have hlt : i < m := by simpa using hlt
      refine (h.more fr).lenE <| rLt ?_
      have hd : decide ((i : Int) < (m : Int)) = true := by simpa using hlt
      rw [hd]
      refine rBool <| rIf (fun hlt2 => ?_) (fun hge => ?_)
      · have hlt2 : i < l.length := by simpa using hlt2
        refine (h.more fr).read (List.getElem?_eq_getElem hlt2) ?_
        refine hB.write (i := i) (x := l[i]) (by rw [rsl_len]; omega) ?_
        intro w4 h4 f4 s4
        refine rAdd (by omega) (by omega) ?_
        have ei : (i : Int) + 1 = ((i + 1 : Nat) : Int) := by omega
        rw [ei]
        rw [rsl_set (List.getElem?_eq_getElem hlt2) hlt] at h4
        refine ⟨⟨rfl, i + 1, by omega, rfl, h4, fr.trans f4 (fun x hx e => by omega)⟩, ?_⟩
        show m - ((i + 1 : Nat) : Int).toNat < m - ((i : Nat) : Int).toNat
        simp; omega
      · have : ¬ i < l.length := by simpa using hge
        exact fin (by omega)
    · have : ¬ i < m := by simpa using hge
      have hd : decide ((i : Int) < (m : Int)) = false := by simpa using hge
      rw [hd]
      refine rBool <| rIfF ?_
      exact fin (by omega)
  · have hd : decide (0 ≤ n ∧ n ≤ 4096) = false := decide_eq_false hn
    rw [hd]
    exact rNot (b := false) <| rIfT (hbad (by omega))

end Go.Proofs.Ytdaopbkggmlopaa
