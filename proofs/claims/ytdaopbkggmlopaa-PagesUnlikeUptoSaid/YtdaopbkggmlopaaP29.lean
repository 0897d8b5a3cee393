/-
  Pages, part 29: the law PagesPlay: what its loop keeps. Own work.
-/
import Derived.Test.YtdaopbkggmlopaaP28
set_option linter.unusedVariables false
set_option linter.unusedSimpArgs false
namespace Go.Proofs.Ytdaopbkggmlopaa
open Go Go.V Go.RowKit

structure OpV where
  kd : Int
  a : Int
  n : Int
  pv : Value
  xs : List (List UInt8)
  x : Nat

def OpV.cells (o : OpV) : List Value := [it o.kd, it o.a, it o.n, o.pv, .int .u64 o.x]

structure OpV.ok (w0 : World) (o : OpV) : Prop where
  a1 : -9223372036854775808 ≤ o.a
  a2 : o.a < 9223372036854775808
  x : o.x < 18446744073709551616
  s : Strs w0 o.pv o.xs
  n : o.xs.length ≤ 1048576
  l : o.xs.flatten.length ≤ 1048576

/-- a slice of calls that stands in w0 -/
structure Ops (w0 : World) (v : Value) (os : List OpV) : Prop where
  shape : ∃ a c, v = .slice a os.length c
  get : ∀ W, Fr (fun _ => False) w0 W → ∀ (i : Nat) o, os[i]? = some o → ∀ K : Value → Prop, K (.agg o.cells.toArray) → vIA (.slice 5) v (it i) fun p => vLd (.agg 5) p W K
  ok : ∀ o ∈ os, o.ok w0

theorem Ops.lenE {w0 : World} {v : Value} {os : List OpV} (h : Ops w0 v os) {K : Value → Prop} (k : K (it os.length)) : vLen (.slice 5) v K := by
  obtain ⟨a, c, rfl⟩ := h.shape
  exact k

abbrev OldX := Gh × List UInt8 × Value × Option Nat

structure Old (w0 W : World) (F : Nat → Prop) (x : OldX) : Prop where
  own : Own w0 W x.1 x.2.1.length (cont x.2.1)
  bs : Bs W x.2.2.1 x.2.1 x.2.2.2
  apart : ∀ k, x.1.sees k → ¬ F k
  apart2 : ∀ k, x.2.2.2 = some k → ¬ F k

theorem Own.keep {w0 w w' : World} {g : Gh} {n : Nat} {c : Nat → UInt8} {F : Nat → Prop} (h : Own w0 w g n c) (f : Fr F w w') (h0 : ∀ k, F k → w0.heap.size ≤ k) (h1 : ∀ k, g.sees k → ¬ F k) : Own w0 w' g n c :=
  ⟨h.fr.trans f (fun x hx hf => by have := h0 x hf; omega), h.mine, h.by'.fr f h1, h.len, h.le, h.zero⟩

theorem Own.sees_lt {w0 w : World} {g : Gh} {n : Nat} {c : Nat → UInt8} (h : Own w0 w g n c) : ∀ k, g.sees k → k < w.heap.size := h.by'.lt

theorem Old.keep {w0 W W' : World} {F G H : Nat → Prop} {x : OldX} (h : Old w0 W F x) (f : Fr G W W') (h0 : ∀ k, G k → w0.heap.size ≤ k) (hG : ∀ k, k < W.heap.size → G k → F k) (hH : ∀ k, k < W.heap.size → H k → F k) : Old w0 W' H x :=
  ⟨h.own.keep f h0 fun k hk hg => h.apart k hk (hG k (h.own.sees_lt k hk) hg), h.bs.fr f fun k hk hg => h.apart2 k hk (hG k (h.bs.lt k hk) hg),
    fun k hk hh => h.apart k hk (hH k (h.own.sees_lt k hk) hh), fun k hk hh => h.apart2 k hk (hH k (h.bs.lt k hk) hh)⟩

/-- nothing of the game sees this block -/
def FreeOf (g : Gh) (bl : Option Nat) (olds : List OldX) (k : Nat) : Prop := ¬ g.sees k ∧ bl ≠ some k ∧ ∀ x ∈ olds, ¬ x.1.sees k ∧ x.2.2.2 ≠ some k

structure Play (w0 W : World) (g : Gh) (l : List UInt8) (v : Value) (bl : Option Nat) (olds : List OldX) (vo vh : Value) (blo blh : Option Nat) : Prop where
  own : Own w0 W g l.length (cont l)
  bs : Bs W v l bl
  apart : ∀ k, bl = some k → ¬ g.foot k
  old : ∀ x ∈ olds, Old w0 W g.foot x
  ro : Row W vo (olds.map fun x => pt x.1.b 0) blo
  rh : Row W vh (olds.map fun x => x.2.2.1) blh
  no : ∀ k, blo = some k → w0.heap.size ≤ k ∧ FreeOf g bl olds k ∧ blh ≠ some k
  nh : ∀ k, blh = some k → w0.heap.size ≤ k ∧ FreeOf g bl olds k

section
variable {w0 W : World} {g : Gh} {l : List UInt8} {v : Value} {bl : Option Nat} {olds : List OldX} {vo vh : Value} {blo blh : Option Nat}

theorem Row.lt' {w : World} {v : Value} {xs : List Value} {bl : Option Nat} (h : Row w v xs bl) : ∀ k, bl = some k → k < w.heap.size := by
  rintro k rfl
  exact rowLt h

theorem Play.more (h : Play w0 W g l v bl olds vo vh blo blh) {W' : World} (f : Fr (fun _ => False) W W') : Play w0 W' g l v bl olds vo vh blo blh :=
  ⟨h.own.more f, h.bs.more f, h.apart, fun x hx => (h.old x hx).keep f (fun _ => False.elim) (fun _ _ => False.elim) (fun _ _ => id), h.ro.fr f fun _ _ => id, h.rh.fr f fun _ _ => id, h.no, h.nh⟩

/-- behind a step -/
theorem Play.step (h : Play w0 W g l v bl olds vo vh blo blh) {W' : World} {g' : Gh} {v' : Value} {l' : List UInt8} {bl' : Option Nat} (evo : Evo W g W' g') (own : Own w0 W' g' l'.length (cont l')) (bs : Bs W' v' l' bl')
    (hb : ∀ k, bl' = some k → bl = some k ∨ W.heap.size ≤ k) (ha : ∀ k, bl' = some k → ¬ g'.foot k) : Play w0 W' g' l' v' bl' olds vo vh blo blh := by
  have hmine : ∀ k, g.foot k → w0.heap.size ≤ k := fun k hk => h.own.mine k (.inl hk)
  have hfoot : ∀ k, k < W.heap.size → g'.foot k → g.foot k := fun k hk hf => by
    rcases evo.foot k hf with e | e
    · exact e
    · omega
  have free : ∀ k, k < W.heap.size → FreeOf g bl olds k → FreeOf g' bl' olds k := fun k hk ⟨h1, h2, h3⟩ => by
    refine ⟨?_, fun e => ?_, h3⟩
    · rintro (hf | hf)
      · exact h1 (.inl (hfoot k hk hf))
      · rcases evo.sees k hf with e | e
        · exact h1 e
        · omega
    · rcases hb k e with e | e
      · exact h2 e
      · omega
  refine ⟨own, bs, ha, fun x hx => (h.old x hx).keep evo.fr hmine (fun _ _ => id) hfoot, h.ro.fr evo.fr fun k hk hf => (h.no k hk).2.1.1 (.inl hf), h.rh.fr evo.fr fun k hk hf => (h.nh k hk).2.1 (.inl hf), ?_, ?_⟩
  · intro k hk
    obtain ⟨h1, h2, h3⟩ := h.no k hk
    exact ⟨h1, free k (h.ro.lt' k hk) h2, h3⟩
  · intro k hk
    obtain ⟨h1, h2⟩ := h.nh k hk
    exact ⟨h1, free k (h.rh.lt' k hk) h2⟩

/-- a write to one block that nothing sees -/
theorem Play.aside {F : Nat → Prop} {W' : World} (own : Own w0 W g l.length (cont l)) (bs : Bs W v l bl) (old : ∀ x ∈ olds, Old w0 W g.foot x) (f : Fr F W W') (hF : ∀ k, F k → w0.heap.size ≤ k ∧ FreeOf g bl olds k) :
    Own w0 W' g l.length (cont l) ∧ Bs W' v l bl ∧ ∀ x ∈ olds, Old w0 W' g.foot x := by
  refine ⟨own.keep f (fun k hk => (hF k hk).1) (fun k hs hk => (hF k hk).2.1 hs), bs.fr f (fun k hb hk => (hF k hk).2.2.1 hb), fun x hx => ?_⟩
  have hx' := old x hx
  exact ⟨hx'.own.keep f (fun k hk => (hF k hk).1) (fun k hs hk => ((hF k hk).2.2.2 x hx).1 hs), hx'.bs.fr f (fun k hb hk => ((hF k hk).2.2.2 x hx).2 hb), hx'.apart, hx'.apart2⟩

/-- behind a Copy -/
theorem Play.copied (h : Play w0 W g l v bl olds vo vh blo blh) {W' : World} {g' : Gh} (h1 : Own w0 W' g.shut l.length (cont l)) (h2 : Own w0 W' g' l.length (cont l)) (f : Fr (fun k => g.ob = some k) W W') (hf : ∀ k, g'.foot k → W.heap.size ≤ k)
    (hs : ∀ k, g'.sees k → g.sees k ∨ W.heap.size ≤ k) :
    Own w0 W' g' l.length (cont l) ∧ Bs W' v l bl ∧ (∀ k, bl = some k → ¬ g'.foot k) ∧ (∀ x ∈ olds ++ [(g.shut, l, v, bl)], Old w0 W' g'.foot x) ∧ Row W' vo (olds.map fun x => pt x.1.b 0) blo ∧ Row W' vh (olds.map fun x => x.2.2.1) blh ∧
      (∀ k, blo = some k → w0.heap.size ≤ k ∧ FreeOf g' bl (olds ++ [(g.shut, l, v, bl)]) k ∧ blh ≠ some k) ∧ (∀ k, blh = some k → w0.heap.size ≤ k ∧ FreeOf g' bl (olds ++ [(g.shut, l, v, bl)]) k) := by
  have hob : ∀ k, g.ob = some k → g.foot k := fun k hk => .inr (.inr (.inl hk))
  have hmine : ∀ k, g.ob = some k → w0.heap.size ≤ k := fun k hk => h.own.mine k (.inl (hob k hk))
  have hbs : Bs W' v l bl := h.bs.fr f fun k hk hg => h.apart k hk (hob k hg)
  have hap : ∀ k, bl = some k → ¬ g'.foot k := fun k hk hg => by have := hf k hg; have := h.bs.lt k hk; omega
  have hsh : ∀ k, g.shut.sees k → g.sees k := by
    rintro k (hk | hk)
    · exact .inl (shut_foot hk)
    · exact .inr hk
  have free : ∀ k, k < W.heap.size → FreeOf g bl olds k → FreeOf g' bl (olds ++ [(g.shut, l, v, bl)]) k := fun k hk ⟨q1, q2, q3⟩ => by
    refine ⟨fun e => ?_, q2, fun x hx => ?_⟩
    · rcases hs k e with e | e
      · exact q1 e
      · omega
    · rcases List.mem_append.1 hx with hx | hx
      · exact q3 x hx
      · simp only [List.mem_singleton] at hx
        subst hx
        exact ⟨fun e => q1 (hsh k e), q2⟩
  refine ⟨h2, hbs, hap, ?_, h.ro.fr f fun k hk hg => (h.no k hk).2.1.1 (.inl (hob k hg)), h.rh.fr f fun k hk hg => (h.nh k hk).2.1 (.inl (hob k hg)), ?_, ?_⟩
  · intro x hx
    rcases List.mem_append.1 hx with hx | hx
    · exact (h.old x hx).keep f hmine (fun k _ => hob k) (fun k hk hg => by have := hf k hg; omega)
    · simp only [List.mem_singleton] at hx
      subst hx
      exact ⟨h1, hbs, fun k hk hg => by have := hf k hg; have := h.own.sees_lt k (hsh k hk); omega, hap⟩
  · intro k hk
    obtain ⟨q1, q2, q3⟩ := h.no k hk
    exact ⟨q1, free k (h.ro.lt' k hk) q2, q3⟩
  · intro k hk
    obtain ⟨q1, q2⟩ := h.nh k hk
    exact ⟨q1, free k (h.rh.lt' k hk) q2⟩

end

end Go.Proofs.Ytdaopbkggmlopaa
