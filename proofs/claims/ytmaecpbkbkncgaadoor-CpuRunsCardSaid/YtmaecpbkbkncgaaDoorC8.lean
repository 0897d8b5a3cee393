/-
  Cpu, part 8: rows of steps; memories of the laws; lives. Own work.
-/
import Derived.Test.YtmaecpbkbkncgaaDoorC7
set_option linter.unusedVariables false
set_option linter.unusedSimpArgs false
set_option maxRecDepth 100000
namespace Go.Proofs.YtmaecpbkbkncgaaDoor
open Go Go.V Go.RowKit

/-- k steps, of which i are done: the state, the bytes, how many, what came of it -/
def overP : Nat → Nat → List Nat → List UInt8 → List Nat × List UInt8 × Nat × Int
  | 0, i, r, l => (r, l, i, 0)
  | k + 1, i, r, l => if (stepP r l).2.2 = 0 then overP k (i + 1) (stepP r l).1 (stepP r l).2.1 else ((stepP r l).1, (stepP r l).2.1, i, (stepP r l).2.2)

theorem overP_go {k i : Nat} {r : List Nat} {l : List UInt8} (h : (stepP r l).2.2 = 0) : overP (k + 1) i r l = overP k (i + 1) (stepP r l).1 (stepP r l).2.1 := by simp only [overP]; rw [if_pos h]
theorem overP_end {k i : Nat} {r : List Nat} {l : List UInt8} (h : ¬ (stepP r l).2.2 = 0) : overP (k + 1) i r l = ((stepP r l).1, (stepP r l).2.1, i, (stepP r l).2.2) := by simp only [overP]; rw [if_neg h]

abbrev stv (r : List Nat) : Value := .agg (stc r).toArray

theorem zc25 : zc Tryd.prog 25 = some (stc (List.replicate 17 0)).toArray := by kernel_rfl
theorem b25e : (fun (K : Value → Prop) => vBuild Tryd.prog 25 [] K) = fun K => K (stv (List.replicate 17 0)) := by kernel_rfl
theorem build25e {K : Value → Prop} (k : K (stv (List.replicate 17 0))) : vBuild Tryd.prog 25 [] K := by
  have := congrFun b25e K
  exact this ▸ k
theorem b78 : (fun (a : Option Addr) (K : Value → Prop) => vBuild Tryd.prog 78 [(0, .pointer a)] K) = fun a K => ((1 : Nat) = 1 ∧ K (.agg #[.pointer a])) := by kernel_rfl
theorem build78 {b : Nat} {K : Value → Prop} (k : K (.agg #[pt b 0])) : vBuild Tryd.prog 78 [(0, pt b 0)] K := by
  have := congrFun (congrFun b78 (some ⟨b, 0, none⟩)) K
  exact this ▸ ⟨rfl, k⟩

theorem St.zero : St (List.replicate 17 0) := ⟨by simp, by intro x hx; simp at hx; omega⟩

theorem stc_one (r : List Nat) : ∀ x ∈ stc r, x.oneCell' = true := by
  intro x hx
  obtain ⟨y, _, rfl⟩ := List.mem_map.1 hx
  rfl

/-- a state is laid, and read there -/
theorem lay17 {w w0 : World} {q : Nat} {r : List Nat} {ds : List Value} {K : Value → World → Prop} (hr : St r) (hq : Cs w q ds) (hl : ds.length = 17)
    (hK : ∀ w', Fr (fun k => k = q) w w' → K (stv r) w') : vSt (some 17) (pt q 0) (stv r) w fun w2 => leaveV [] w2 fun W => vLd (.agg 17) (pt q 0) W fun v => K v W := by
  have e : ((stc r).drop 0).take 17 = stc r := by rw [List.drop_zero, List.take_of_length_le (by rw [stc_len hr]; omega)]
  refine rStN hq (by simp [hr.len]) (by omega) (by simpa using stc_one r) ?_
  intro w2 u
  have e2 : spl ds 0 (stc r).toArray.toList = stc r := by simp [spl, hr.len, hl]
  rw [e2] at u
  show vLd (.agg 17) (pt q 0) w2 fun v => K v w2
  refine rLdN u.cs (by rw [stc_len hr]; decide) ?_
  rw [e]
  exact hK w2 u.fr

theorem ld17 {w : World} {p : Nat} {r : List Nat} {K : Value → Prop} (hr : St r) (hp : Cs w p (stc r)) (k : K (stv r)) : vLd (.agg 17) (pt p 0) w K := by
  refine rLdN hp (by rw [stc_len hr]; decide) ?_
  have e : ((stc r).drop 0).take 17 = stc r := by rw [List.drop_zero, List.take_of_length_le (by rw [stc_len hr]; omega)]
  rw [e]
  exact k

/-- cpu.Over -/
theorem over_spec {w0 w : World} {g : Gh} {l : List UInt8} {r : List Nat} {n : Int} {K : Value → World → Prop} (hT : Tabs w0) (h : Own w0 w g l.length (cont l)) (hr : St r)
    (hn1 : -9223372036854775808 ≤ n) (hn2 : n < 9223372036854775808)
    (hK : ∀ w' g', Evo w g w' g' → Own w0 w' g' (overP n.toNat 0 r l).2.1.length (cont (overP n.toNat 0 r l).2.1) → St (overP n.toNat 0 r l).1 →
      K (.tuple #[stv (overP n.toNat 0 r l).1, it (overP n.toNat 0 r l).2.2.1, it (overP n.toNat 0 r l).2.2.2]) w') : CallK Tryd.prog 14 #[pt g.b 0, stv r, it n] w K := by
  apply Ret.call
  apply F14_ok
  unfold F14
  refine rBoxA ?_
  intro w1 c1 f1 s1
  refine rAllocT zc25 ?_
  intro w2 h2 f2 s2
  have d2 : Cs w2 w1.heap.size (stc (List.replicate 17 0)) := ⟨_, h2⟩
  have c2 : Cs w2 w.heap.size (stc r) := c1.fr f2 id
  have hlt := h.ge
  have f02 := f1.more f2
  have hm2 : Sm w0 w2 g l w.heap.size r := ⟨h.more f02, c2, hr, fun e => by have := hlt _ e; omega, h.fr.size⟩
  have hq : w.heap.size < w1.heap.size := by omega
  have hq2 := d2.lt
  generalize hN : n.toNat = N at *
  have eN : (if (0 : Int) > n then (0 : Int) else n) = N := by split <;> omega
  show loopF _ [pt g.b 0, it n, _, _, it (if (0 : Int) > n then 0 else n), it 0] _ _ _
  rw [eN]
  clear c1 h2 c2
  generalize w1.heap.size = q at *
  refine ⟨fun vs ds W => ds = [] ∧ ∃ (i : Nat) (r' : List Nat) (l' : List UInt8) (g' : Gh), i ≤ N ∧ vs = [pt g.b 0, it n, pt w.heap.size 0, pt q 0, it N, it i] ∧ Evp w2 g w.heap.size W g' ∧ Sm w0 W g' l' w.heap.size r' ∧ Cs W q (stc (List.replicate 17 0)) ∧ overP N 0 r l = overP (N - i) i r' l',
    fun vs _ _ => match vs with | [_, _, _, _, _, .int _ i] => N - i.toNat | _ => 0, ⟨rfl, 0, r, l, g, by omega, rfl, .of_fr0 (Fr.refl _ _), hm2, d2, rfl⟩, ?_⟩
  rintro ρ ds W ⟨rfl, i, r', l', g', hi, hρ, he, hs, hd, ho⟩
  have hρ0 := hρ
  simp only [List.map_cons, List.map_nil, List.cons.injEq, and_true] at hρ
  obtain ⟨e0, e2, e4, e6, e12, e13⟩ := hρ
  unfold F14L1
  rw [hρ0, e0, e2, e4, e6, e12, e13]
  have hsq : q ≠ w.heap.size := by omega
  have hnq : ∀ {w' : World} {g'' : Gh}, Evp w2 g w.heap.size w' g'' → ¬ g''.sees q := fun e => e.nsees hq2 (fun x => by have := hlt _ x; omega)
  have hfin : ∀ {W : World} {r' : List Nat} {l' : List UInt8} {g' : Gh} {x y : Int}, Evp w2 g w.heap.size W g' → Sm w0 W g' l' w.heap.size r' → Cs W q (stc (List.replicate 17 0)) → (∀ w' g', Evo w g w' g' → Own w0 w' g' l'.length (cont l') → St r' → K (.tuple #[stv r', it x, it y]) w') →
      ∀ w', Fr (fun k => k = q) W w' → K (.tuple #[stv r', it x, it y]) w' := by
    intro W r' l' g' x y he hs hd hk w' f'
    refine hk w' g' ⟨?_, he.b, fun k hf => ?_, fun k hf => ?_⟩ (hs.own.frp f' (Nat.le_trans h.fr.size (by omega)) (hnq he)) hs.ok
    · refine (Fr.trans (f02.mono (G := g.foot) fun _ _ => False.elim) he.fr ?_).trans f' ?_
      · intro k hk hf
        rcases hf with e | e
        · omega
        · exact e
      · intro k hk e
        omega
    · rcases he.foot k hf with e | e
      · exact .inl e
      · have := f02.size; exact .inr (by omega)
    · rcases he.sees k hf with e | e
      · exact .inl e
      · have := f02.size; exact .inr (by omega)
  refine rLt <| rIf (fun hlt' => ?_) (fun hge => ?_)
  · have hlt' : i < N := by
      have : (i : Int) < N := by simpa using hlt'
      omega
    obtain ⟨k, hk⟩ : ∃ k, N - i = k + 1 := ⟨N - i - 1, by omega⟩
    rw [hk] at ho
    refine build78 ?_
    show CallK Tryd.prog 13 #[pt w.heap.size 0, .iface 78 (.agg #[pt g.b 0])] W _
    refine step_spec hT hs (by rw [he.b]; exact memFlat _) ?_
    intro w3 g3 e3 h3
    have he3 := he.trans e3
    have hd3 : Cs w3 q (stc (List.replicate 17 0)) := hd.fr e3.fr (by
      rintro (e | e)
      · exact hsq e
      · exact hnq he (.inl e))
    refine rNe <| rIf (fun hx => ?_) (fun hx => ?_)
    · have hx : ¬ (stepP r' l').2.2 = 0 := by simpa using hx
      rw [overP_end hx] at ho
      rw [ho] at hK
      refine ld17 h3.ok h3.st ?_
      refine lay17 (w0 := w0) (K := fun v W => K (.tuple #[v, it i, it (stepP r' l').2.2]) W) h3.ok hd3 (by simp) ?_
      exact hfin he3 h3 hd3 hK
    · have hx : (stepP r' l').2.2 = 0 := by simpa using hx
      rw [overP_go hx] at ho
      refine rAdd (by omega) (by omega) ?_
      have ei : (i : Int) + 1 = ((i + 1 : Nat) : Int) := by omega
      rw [ei]
      have ek : k = N - (i + 1) := by omega
      rw [ek] at ho
      refine ⟨⟨rfl, i + 1, _, _, g3, by omega, rfl, he3, h3, hd3, ho⟩, ?_⟩
      show N - ((i + 1 : Nat) : Int).toNat < N - ((i : Nat) : Int).toNat
      omega
  · have hi : i = N := by
      have : ¬ (i : Int) < N := by simpa using hge
      omega
    subst hi
    have : overP (i - i) i r' l' = (r', l', i, 0) := by rw [Nat.sub_self]; rfl
    rw [this] at ho
    rw [ho] at hK
    refine ld17 hs.ok hs.st ?_
    show vSt (some 17) (pt q 0) (stv r') W fun w2 => leaveV [] w2 fun W => vLd (.agg 17) (pt q 0) W fun r => K (.tuple #[r, it (if (0 : Int) > n then 0 else n), it 0]) W
    rw [eN]
    refine lay17 (w0 := w0) (K := fun v W => K (.tuple #[v, it i, it 0]) W) hs.ok hd (by simp) ?_
    exact hfin he hs hd hK

/-- the first 4096 bytes -/
def memP (s : List UInt8) : List UInt8 := s.take 4096
theorem memP_len (s : List UInt8) : (memP s).length ≤ 4096 := by simp [memP]; omega

theorem wrl_all (m : Nat) (s : List UInt8) (h : s.length = m) : wrc (fun _ => 0) 0 s = cont s := by
  funext i
  unfold wrc cont
  rw [if_pos (Nat.zero_le _), Nat.sub_zero]

/-- memory -/
theorem memory_spec {w : World} {s : List UInt8} {K : Value → World → Prop}
    (hK : ∀ w' g, Own w w' g (memP s).length (cont (memP s)) → K (pt g.b 0) w') : CallK Tryd.prog 16 #[str s] w K := by
  apply Ret.call
  apply F16_ok
  unfold F16
  refine rLenB ?_
  have hm : (if (4096 : Int) < (s.length : Int) then (4096 : Int) else s.length) = ((min s.length 4096 : Nat) : Int) := by split <;> omega
  refine rMin2 ?_
  rw [hm]
  refine rSlStrHi (by omega) ?_
  have hp : s.take (min s.length 4096) = memP s := by
    unfold memP
    by_cases h : s.length ≤ 4096
    · rw [Nat.min_eq_left h, List.take_of_length_le (Nat.le_refl _), List.take_of_length_le h]
    · rw [Nat.min_eq_right (by omega)]
  rw [hp]
  refine rLenB ?_
  have hl := memP_len s
  refine Own.new (Fr.refl _ _) (fun hb => by omega) ?_
  intro m hm' hle w1 g h1
  have em : m = (memP s).length := by omega
  subst em
  refine rExt0 <| rExt1 <| rNe <| rIfF ?_
  refine bs41_1 ?_
  intro w2 c2 f2 s2
  refine (h1.more f2).writeE (by decide) (by decide) (parts_one c2) ?_
  intro w3 g3 evo h3
  have e0 : fitsE (memP s).length 0 (memP s).length = 0 := by
    unfold fitsE
    rw [if_neg (by omega)]
  rw [e0, if_pos rfl, Int.toNat_zero, wrl_all _ _ rfl] at h3
  rw [e0]
  refine rNe <| rIfF ?_
  have := hK w3 g3 h3
  rw [evo.b] at this
  exact this

/-- all -/
theorem all_spec {w0 w : World} {g : Gh} {l : List UInt8} {K : Value → World → Prop} (h : Own w0 w g l.length (cont l)) (hK : ∀ w', Fr (fun _ => False) w w' → K (str l) w') : CallK Tryd.prog 18 #[pt g.b 0] w K := by
  apply Ret.call
  apply F18_ok
  unfold F18
  have hle := h.le
  refine h.lenC ?_
  refine h.read (by decide) (by decide) ?_
  intro w2 h2 f2
  have e0 : fitsE l.length 0 l.length = 0 := by
    unfold fitsE
    rw [if_neg (by omega)]
  refine rExt0 <| rExt1 ?_
  rw [e0, if_pos rfl, Int.toNat_zero, Int.toNat_natCast, seg_cont_all]
  exact hK w2 f2

def liveText : List UInt8 := [3, 1, 5, 0, 3, 2, 7, 0, 8, 3, 1, 2, 0, 0, 0, 0]

theorem liveRun : overP 10 0 (List.replicate 17 0) liveText = ([0, 5, 7, 35, 0, 0, 0, 0, 0, 0, 0, 0, 0, 0, 0, 0, 12], liveText, 3, 2) := by decide +kernel

theorem rT0 {a b c : Value} {K : Value → Prop} (k : K a) : vExt (.tuple #[a, b, c]) 0 K := k
theorem rT1 {a b c : Value} {K : Value → Prop} (k : K b) : vExt (.tuple #[a, b, c]) 1 K := k
theorem rT2 {a b c : Value} {K : Value → Prop} (k : K c) : vExt (.tuple #[a, b, c]) 2 K := k

/-- lives -/
theorem lives_spec {w : World} {K : Value → World → Prop} (hT : Tabs w) (hK : ∀ w', Fr (fun _ => False) w w' → K (.bool true) w') : CallK Tryd.prog 10 #[] w K := by
  apply Ret.call
  apply F10_ok
  unfold F10
  refine memory_spec (s := liveText) ?_
  intro w1 g h1
  have em : memP liveText = liveText := rfl
  rw [em] at h1
  refine rPNil' <| rIfF <| build25e ?_
  refine over_spec (n := 10) hT h1 St.zero (by decide) (by decide) ?_
  have e10 : (10 : Int).toNat = 10 := rfl
  rw [e10, liveRun]
  intro w2 g2 evo h2 hs2
  refine rT0 <| rT1 <| rT2 <| rAllocT zc25 ?_
  intro w3 h3 f3 s3
  have d3 : Cs w3 w2.heap.size (stc (List.replicate 17 0)) := ⟨_, h3⟩
  refine rStN d3 rfl (by simp) (stc_one [0, 5, 7, 35, 0, 0, 0, 0, 0, 0, 0, 0, 0, 0, 0, 0, 12]) ?_
  intro w4 u4
  have d4 : Cs w4 w2.heap.size (stc [0, 5, 7, 35, 0, 0, 0, 0, 0, 0, 0, 0, 0, 0, 0, 0, 12]) := u4.cs
  have f4 : Fr (fun _ => False) w w4 := (h2.fr.more f3).trans u4.fr fun k hk e => by have := h2.fr.size; omega
  refine rFA0 <| rIAr (a := 3) (by decide) (by decide) <| rLd d4 (v := ut 35) rfl <| rEqU (y := 35) <| rIfT <| rEq <| rIfT <| rEq <| rIfT <| rFA0 <| rLd d4 (v := ut 12) rfl <| rEqU (y := 12) ?_
  exact hK w4 f4

end Go.Proofs.YtmaecpbkbkncgaaDoor
