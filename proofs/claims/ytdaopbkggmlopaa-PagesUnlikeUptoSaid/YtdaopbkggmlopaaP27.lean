/-
  Pages, part 27: one call on both: step; whole. Own work.
-/
import Derived.Test.YtdaopbkggmlopaaP26
set_option linter.unusedVariables false
set_option linter.unusedSimpArgs false
namespace Go.Proofs.Ytdaopbkggmlopaa
open Go Go.V Go.RowKit

/-- a slice of texts that stands in w0 -/
structure Strs (w0 : World) (v : Value) (xs : List (List UInt8)) : Prop where
  shape : ∃ a c, v = .slice a xs.length c
  get : ∀ W, Fr (fun _ => False) w0 W → ∀ (i : Nat) x, xs[i]? = some x → ∀ K : Value → Prop, K (str x) → vIA (.slice 1) v (it i) fun p => vLd .one p W K
  src : ∀ W, Fr (fun _ => False) w0 W → Src W v (xs.map str)

theorem Strs.lenE {w0 : World} {v : Value} {xs : List (List UInt8)} (h : Strs w0 v xs) {K : Value → Prop} (k : K (it xs.length)) : vLen (.slice 1) v K := by
  obtain ⟨a, c, rfl⟩ := h.shape
  exact k

theorem flat_take (xs : List (List UInt8)) (i : Nat) : (xs.take i).flatten.length ≤ xs.flatten.length := by
  conv => rhs; rw [← List.take_append_drop i xs]
  rw [List.flatten_append, List.length_append]; omega

theorem joined32 {w0 w : World} {v : Value} {xs : List (List UInt8)} {K : Value → World → Prop} (h : Strs w0 v xs) (f0 : Fr (fun _ => False) w0 w) (hn : xs.length ≤ 1048576) (hl : xs.flatten.length ≤ 1048576)
    (hK : ∀ w', Fr (fun _ => False) w w' → K (str xs.flatten) w') : CallK Try.prog 32 #[v] w K := by
  apply Ret.call
  apply F32_ok
  unfold F32
  refine h.lenE ?_
  refine ⟨fun vs ds W => ds = [] ∧ ∃ (i : Nat) (u : Value) (bl : Option Nat), i ≤ xs.length ∧ vs = [u, v, it xs.length, it i] ∧ Bs W u (xs.take i).flatten bl ∧ (∀ k, bl = some k → w.heap.size ≤ k) ∧ Fr (fun _ => False) w W,
    fun vs _ _ => match vs with | [_, _, _, .int _ i] => xs.length - i.toNat | _ => 0, ⟨rfl, 0, .slice none 0 0, none, by omega, rfl, ⟨rfl, rfl⟩, by simp, Fr.refl _ _⟩, ?_⟩
  rintro ρ ds W ⟨rfl, i, u, bl, hi, hρ, hB, hbl, fr⟩
  have hρ0 := hρ
  simp only [List.map_cons, List.map_nil, List.cons.injEq, and_true] at hρ
  obtain ⟨e3, e6, e7, e8⟩ := hρ
  unfold F32L1
  rw [hρ0, e3, e6, e7, e8]
  refine rLt <| rIf (fun hlt => ?_) (fun hge => ?_)
  · have hlt : i < xs.length := by simpa using hlt
    have hx := List.getElem?_eq_getElem hlt
    refine h.get W (f0.more fr) i _ hx _ ?_
    have h1 := flat_take xs (i + 1)
    have et : (xs.take (i + 1)).flatten = (xs.take i).flatten ++ xs[i] := by
      rw [List.take_add_one, hx, List.flatten_append]; simp
    rw [et, List.length_append] at h1
    refine Bs.app k9 hB (src_str _) (by omega) ?_
    intro w2 v2 bl2 h2 f2 hb2 _
    refine rAdd (by omega) (by omega) ?_
    have ei : (i : Int) + 1 = ((i + 1 : Nat) : Int) := by omega
    rw [ei]
    refine ⟨⟨rfl, i + 1, v2, bl2, by omega, rfl, by rw [et]; exact h2, fun k hk => ?_, fr.trans f2 (fun k hk e => by have := hbl k e; omega)⟩, ?_⟩
    · rcases hb2 k hk with e | e
      · exact hbl k e
      · have := fr.size; omega
    · show xs.length - ((i + 1 : Nat) : Int).toNat < xs.length - ((i : Nat) : Int).toNat
      simp; omega
  · have hi : i = xs.length := by
      have : ¬ i < xs.length := by simpa using hge
      omega
    subst hi
    rw [List.take_length] at hB
    exact hB.toStr (hK W fr)

theorem Evo.quiet {w w' : World} {g : Gh} (f : Fr (fun _ => False) w w') : Evo w g w' g := ⟨f.mono fun _ _ => False.elim, rfl, fun _ => .inl, fun _ h => .inl (.inr h)⟩

theorem Own.lt {w0 w : World} {g : Gh} {n : Nat} {c : Nat → UInt8} (h : Own w0 w g n c) : ∀ k, g.foot k → k < w.heap.size := fun k hk => h.by'.lt k (.inl hk)

theorem seg_fits {l : List UInt8} {a k : Int} : (if fitsE l.length a k = 0 then seg (cont l) a.toNat k.toNat else []) = (if fitsE l.length a k = 0 then (l.drop a.toNat).take k.toNat else []) := by
  split
  · rename_i h
    obtain ⟨A, k', rfl, rfl, hak⟩ := fitsE_nat h
    exact seg_cont l _ _ (by simpa using hak)
  · rfl

theorem beq_refl' (l : List UInt8) : (l == l) = true := by simp

theorem ieq_refl (n : Int) : (n == n) = true := by simp
theorem ine_refl (n : Int) : (n != n) = false := by simp

theorem spare_ne : (([115, 112, 97, 114, 101] : List UInt8) == [115, 112, 97, 114, 101]) = true := by decide

/-- what is told of a step -/
def Stepped (w0 w : World) (g : Gh) (bl : Option Nat) (K : Value → World → Prop) : Prop :=
  ∀ w' g' v' l' bl', Evo w g w' g' → Own w0 w' g' l'.length (cont l') → Bs w' v' l' bl' → (∀ k, bl' = some k → bl = some k ∨ w.heap.size ≤ k) → (∀ k, bl' = some k → ¬ g'.foot k) → K (.tuple #[v', .bool true]) w'

theorem step_read {w0 w : World} {g : Gh} {v pv : Value} {l : List UInt8} {bl : Option Nat} {kd a n : Int} {x : Nat} {K : Value → World → Prop} (h : Own w0 w g l.length (cont l)) (hb : Bs w v l bl) (hbl : ∀ k, bl = some k → ¬ g.foot k)
    (ha1 : -9223372036854775808 ≤ a) (ha2 : a < 9223372036854775808) (hK : Stepped w0 w g bl K)
    (hk : kd = 1) : CallK Try.prog 16 #[pt g.b 0, v, .agg #[it kd, it a, it n, pv, .int .u64 x]] w K := by
  apply Ret.call
  apply F16_ok
  unfold F16
  subst hk
  refine rBoxA ?_
  intro w1 c1 f1 s1
  refine rFA0 <| rLd c1 rfl <| rEq <| rIfT <| rFA0 <| rLd c1 rfl <| rFA0 <| rLd c1 rfl ?_
  have hle := h.le
  refine (h.more f1).read ha1 ha2 ?_
  intro w2 h2 f2
  refine rExt0 <| rExt1 <| rFA0 <| rLd (c1.fr f2 id) rfl <| rFA0 <| rLd (c1.fr f2 id) rfl ?_
  refine read30 ((hb.more f1).more f2) (by omega) ha1 ha2 ?_
  rw [seg_fits]
  refine rExt0 <| rExt1 <| rSEq ?_
  rw [beq_refl']
  refine rIfT <| rEq ?_
  rw [ieq_refl]
  exact hK w2 g v l bl (Evo.quiet (f1.more f2)) h2 ((hb.more f1).more f2) (fun _ => .inl) hbl

theorem step_word {w0 w : World} {g : Gh} {v pv : Value} {l : List UInt8} {bl : Option Nat} {kd a n : Int} {x : Nat} {K : Value → World → Prop} (h : Own w0 w g l.length (cont l)) (hb : Bs w v l bl) (hbl : ∀ k, bl = some k → ¬ g.foot k)
    (ha1 : -9223372036854775808 ≤ a) (ha2 : a < 9223372036854775808) (hK : Stepped w0 w g bl K)
    (hk : kd = 4) : CallK Try.prog 16 #[pt g.b 0, v, .agg #[it kd, it a, it n, pv, .int .u64 x]] w K := by
  apply Ret.call
  apply F16_ok
  unfold F16
  subst hk
  refine rBoxA ?_
  intro w1 c1 f1 s1
  refine rFA0 <| rLd c1 rfl <| rEq <| rIfF <| rEq <| rIfF <| rEq <| rIfF <| rEq <| rIfT <| rFA0 <| rLd c1 rfl ?_
  have hle := h.le
  refine word21 (h.more f1) ha1 ha2 ?_
  intro w2 h2 f2
  refine rExt0 <| rExt1 <| rFA0 <| rLd (c1.fr f2 id) rfl ?_
  refine word34 ((hb.more f1).more f2) (by omega) ha1 ha2 ?_
  have e8 : ((8 : Int).toNat) = 8 := rfl
  have := seg_fits (l := l) (a := a) (k := 8)
  rw [e8] at this
  rw [this]
  refine rExt0 <| rExt1 ⟨rfl, ?_⟩
  rw [ieq_refl]
  refine rIfT <| rEq ?_
  rw [ieq_refl]
  exact hK w2 g v l bl (Evo.quiet (f1.more f2)) h2 ((hb.more f1).more f2) (fun _ => .inl) hbl

theorem step_else {w0 w : World} {g : Gh} {v pv : Value} {l : List UInt8} {bl : Option Nat} {kd a n : Int} {x : Nat} {K : Value → World → Prop} (h : Own w0 w g l.length (cont l)) (hb : Bs w v l bl) (hbl : ∀ k, bl = some k → ¬ g.foot k)
    (hK : Stepped w0 w g bl K)
    (h1 : kd ≠ 1) (h2 : kd ≠ 2) (h3 : kd ≠ 3) (h4 : kd ≠ 4) (h5 : kd ≠ 5) : CallK Try.prog 16 #[pt g.b 0, v, .agg #[it kd, it a, it n, pv, .int .u64 x]] w K := by
  apply Ret.call
  apply F16_ok
  unfold F16
  refine rBoxA ?_
  intro w1 c1 f1 s1
  have d1 : (kd == 1) = false := by simpa using h1
  have d2 : (kd == 2) = false := by simpa using h2
  have d3 : (kd == 3) = false := by simpa using h3
  have d4 : (kd == 4) = false := by simpa using h4
  have d5 : (kd == 5) = false := by simpa using h5
  refine rFA0 <| rLd c1 rfl <| rEq ?_
  rw [d1]
  refine rIfF <| rEq ?_
  rw [d2]
  refine rIfF <| rEq ?_
  rw [d3]
  refine rIfF <| rEq ?_
  rw [d4]
  refine rIfF <| rEq ?_
  rw [d5]
  refine rIfF ?_
  exact hK w1 g v l bl (Evo.quiet f1) (h.more f1) (hb.more f1) (fun _ => .inl) hbl

theorem step_resize {w0 w : World} {g : Gh} {v pv : Value} {l : List UInt8} {bl : Option Nat} {kd a n : Int} {x : Nat} {K : Value → World → Prop} (h : Own w0 w g l.length (cont l)) (hb : Bs w v l bl) (hbl : ∀ k, bl = some k → ¬ g.foot k)
    (hK : Stepped w0 w g bl K)
    (hk : kd = 3) : CallK Try.prog 16 #[pt g.b 0, v, .agg #[it kd, it a, it n, pv, .int .u64 x]] w K := by
  apply Ret.call
  apply F16_ok
  unfold F16
  subst hk
  refine rBoxA ?_
  intro w1 c1 f1 s1
  refine rFA0 <| rLd c1 rfl <| rEq <| rIfF <| rEq <| rIfF <| rEq <| rIfT <| rFA0 <| rLd c1 rfl ?_
  have hle := h.le
  have hlt := h.lt
  by_cases hn : n < 0 ∨ 4096 < n
  · refine resize33 (hb.more f1) (by omega) (fun _ => ?_) (fun m hm hm2 => by omega)
    refine rExt0 <| rExt1 <| rFA0 <| rLd c1 rfl ?_
    refine (h.more f1).resizeE (fun _ w2 h2 f2 => ?_) (fun m hm hm2 => by omega)
    refine rEq ?_
    rw [ieq_refl]
    exact hK w2 g v l bl (Evo.quiet (f1.more f2)) h2 ((hb.more f1).more f2) (fun _ => .inl) hbl
  · refine resize33 (hb.more f1) (by omega) (fun hbad => absurd hbad hn) ?_
    intro m hm hm2 w2 v2 hb2 f2
    refine rExt0 <| rExt1 <| rFA0 <| rLd (c1.fr f2 id) rfl ?_
    refine ((h.more f1).more f2).resizeE (fun hbad => absurd hbad hn) ?_
    intro m' hm' _ w3 g3 evo h3
    have em : m' = m := by omega
    subst em
    rw [cont_rsl] at h3
    refine rEq ?_
    rw [ieq_refl]
    have hlen := rsl_len l m'
    have f12 := f1.more f2
    have hq2 := hb2.lt _ rfl
    refine hK w3 g3 v2 (rsl l m') (some w1.heap.size) (Evo.fore f12 evo) (by rw [hlen]; exact h3) (hb2.fr evo.fr (fun k hk hf => ?_)) (fun k hk => ?_) (fun k hk hf => ?_)
    · simp only [Option.some.injEq] at hk
      have := hlt k hf; omega
    · simp only [Option.some.injEq] at hk
      omega
    · simp only [Option.some.injEq] at hk
      rcases evo.foot k hf with e | e
      · have := hlt k e; omega
      · omega

theorem step_setword {w0 w : World} {g : Gh} {v pv : Value} {l : List UInt8} {bl : Option Nat} {kd a n : Int} {x : Nat} {K : Value → World → Prop} (h : Own w0 w g l.length (cont l)) (hb : Bs w v l bl) (hbl : ∀ k, bl = some k → ¬ g.foot k)
    (ha1 : -9223372036854775808 ≤ a) (ha2 : a < 9223372036854775808) (hx : x < 18446744073709551616) (hK : Stepped w0 w g bl K)
    (hk : kd = 5) : CallK Try.prog 16 #[pt g.b 0, v, .agg #[it kd, it a, it n, pv, .int .u64 x]] w K := by
  apply Ret.call
  apply F16_ok
  unfold F16
  subst hk
  refine rBoxA ?_
  intro w1 c1 f1 s1
  have hle := h.le
  have hlt := h.lt
  refine rFA0 <| rLd c1 rfl <| rEq <| rIfF <| rEq <| rIfF <| rEq <| rIfF <| rEq <| rIfF <| rEq <| rIfT ?_
  have hS : ∀ (u : Value) (o : Nat), ([it 5, it a, it n, pv, .int .u64 x] : List Value)[o]? = some u → ∀ W, Cs W w.heap.size [it 5, it a, it n, pv, .int .u64 x] → ∃ cs, Cs W w.heap.size cs ∧ cs[o]? = some u := fun u o hv W hW => ⟨_, hW, hv⟩
  refine ⟨fun W => Cs W w.heap.size [it 5, it a, it n, pv, .int .u64 x], c1, rFA0 <| rLdS _ (hS (it a) 1 rfl) <| rFA0 <| rLdS _ (hS (.int .u64 x) 4 rfl) ⟨?_, trivial⟩⟩
  refine eight35 hx ?_
  intro w2 f2
  have f2' : Fr (fun _ => False) w1 w2 := ((Fr.refl _ w1).drew).more f2
  have f12 := f1.more f2'
  refine ⟨c1.fr f2' id, ?_, trivial⟩
  have e8 : ((eight x).length : Int) = 8 := by rw [eight_len]; rfl
  -- what is done with the pages behind the document's answer
  have fin : ∀ (W : World) (v' : Value) (l' : List UInt8) (bl' : Option Nat), Fr (fun _ => False) w W → Cs W w.heap.size [it 5, it a, it n, pv, .int .u64 x] → Bs W v' l' bl' → l'.length = l.length → (∀ k, bl' = some k → bl = some k ∨ w.heap.size ≤ k) → cont l' = (if fitsE l.length a 8 = 0 then wrc (cont l) a.toNat (eight x) else cont l) →
      CallK Try.prog 20 #[pt g.b 0, it a, .int .u64 x] W fun v154 w_17 => vBin (.int .i64) .eql v154 (it (fitsE l.length a 8)) fun v156 => K (.tuple #[v', v156]) w_17 := by
    intro W v' l' bl' f c hbs hlen hfresh hcont
    refine setword20 (h.more f) hx ha1 ha2 ?_
    intro w6 g6 evo h6
    rw [← hcont] at h6
    refine rEq ?_
    rw [ieq_refl]
    have hbl' := hbs.lt
    have hno : ∀ k, bl' = some k → ¬ g.foot k := fun k hk hf => by
      rcases hfresh k hk with e | e
      · exact hbl k e hf
      · have := hlt k hf; omega
    refine hK w6 g6 v' l' bl' (Evo.fore f evo) (by rw [hlen]; exact h6) (hbs.fr evo.fr hno) hfresh (fun k hk hf => ?_)
    rcases evo.foot k hf with e | e
    · exact hno k hk e
    · have := hbl' k hk; omega
  refine write31 (hb.more f12) (by omega) (by rw [eight_len]; omega) ha1 ha2 ?_ ?_
  · intro hbad
    rw [e8] at hbad
    have c2 := c1.fr f2' id
    refine ⟨c2, rExt0 <| rExt1 <| rFA0 <| rLd c2 rfl <| rFA0 <| rLd c2 rfl ?_⟩
    have := fin w2 v l bl f12 c2 (hb.more f12) rfl (fun _ => .inl) (by rw [hbad]; rfl)
    rw [hbad] at this
    exact this
  · intro A hA hal w3 v3 q hb3 f3 hq
    have c3 := (c1.fr f2' id).fr f3 id
    refine ⟨c3, rExt0 <| rExt1 <| rFA0 <| rLd c3 rfl <| rFA0 <| rLd c3 rfl ?_⟩
    have hz : fitsE l.length a 8 = 0 := by
      rw [eight_len] at hal
      unfold fitsE; rw [if_neg (by omega)]
    have s12 := f12.size
    have := fin w3 v3 (wrl l A (eight x)) (some q) (f12.more f3) c3 hb3 (wrl_len hal) (fun k hk => by simp only [Option.some.injEq] at hk; omega) (by rw [hz, if_pos rfl, hA, Int.toNat_natCast, cont_wrl hal])
    rw [hz] at this
    exact this

end Go.Proofs.Ytdaopbkggmlopaa
