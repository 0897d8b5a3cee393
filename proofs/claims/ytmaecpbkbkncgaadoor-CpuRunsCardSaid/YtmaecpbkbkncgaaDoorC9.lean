/-
  Cpu, part 9: states that are alike; two memories; CpuSteps. Own work.
-/
import Derived.Test.YtmaecpbkbkncgaaDoorC8
set_option linter.unusedVariables false
set_option linter.unusedSimpArgs false
set_option maxRecDepth 100000
namespace Go.Proofs.YtmaecpbkbkncgaaDoor
open Go Go.V Go.RowKit

theorem mapM_some {α β : Type} {f : α → Option β} {g : α → β} : ∀ (l : List α), (∀ x ∈ l, f x = some (g x)) → l.mapM f = some (l.map g)
  | [], _ => rfl
  | x :: r, h => by
    rw [List.mapM_cons, h x (by simp), mapM_some r (fun y hy => h y (by simp [hy]))]
    rfl

theorem mapM_mapO {α β γ : Type} (l : List α) (h : α → β) (f : β → Option γ) : l.mapM (fun x => f (h x)) = (l.map h).mapM f := by
  induction l with
  | nil => rfl
  | cons x r ih => rw [List.map_cons, List.mapM_cons, List.mapM_cons, ih]

noncomputable def fields25 : Array Field := match Tryd.prog.underlying 25 with
  | some (.struct fs) => fs
  | _ => #[]
theorem u25 : Tryd.prog.underlying 25 = some (.struct fields25) := by kernel_rfl
noncomputable def tyR : Nat := match fields25.toList.map (fun f => (f.type, f.offset)) with
  | [(a, _), _] => a
  | _ => 0
noncomputable def tyU : Nat := match fields25.toList.map (fun f => (f.type, f.offset)) with
  | [_, (b, _)] => b
  | _ => 0
theorem f25 : fields25.toList.map (fun f => (f.type, f.offset)) = [(tyR, 0), (tyU, 16)] := by kernel_rfl
theorem uR : Tryd.prog.underlying tyR = some (.array 16 tyU) := by kernel_rfl
theorem uU : Tryd.prog.underlying tyU = some (.int .u64) := by kernel_rfl
theorem cU : Tryd.prog.cellsOf tyU = 1 := by kernel_rfl
theorem cR : Tryd.prog.cellsOf tyR = 16 := by kernel_rfl
theorem c25 : Tryd.prog.cellsOf 25 = 17 := by kernel_rfl
theorem n25 : (fields25.all (·.name != "_")) = true := by kernel_rfl
theorem kt25 : Tryd.prog.keyTypeAt 4 25 = true := by kernel_rfl
theorem eg25 : Tryd.prog.eqGuardType Tryd.prog.depth 25 = false := by kernel_rfl

theorem wf_ut {x : Nat} (h : x < 18446744073709551616) : (Lit.int .u64 (x : Int)).wf = true := by
  simp [Lit.wf, IntKind.min, IntKind.max, IntKind.signed, IntKind.bits]; omega

theorem litsU {d x : Nat} (h : x < 18446744073709551616) : Tryd.prog.keyLits (d + 1) tyU [ut x] = some [.int .u64 x] := by
  unfold Program.keyLits
  simp only [uU]
  rw [if_pos ⟨trivial, wf_ut h⟩]

theorem litsR {d : Nat} {r : List Nat} (h : r.length = 16) (hr : ∀ x ∈ r, x < 18446744073709551616) : Tryd.prog.keyLits (d + 2) tyR (stc r) = some (r.map fun (x : Nat) => Lit.int .u64 (x : Int)) := by
  unfold Program.keyLits
  simp only [uR]
  rw [if_pos (by simp [h, cR]), cU]
  have : (List.range 16).mapM (fun i => Tryd.prog.keyLits (d + 1) tyU (((stc r).drop (i * 1)).take 1)) = some ((List.range 16).map fun i => [Lit.int .u64 (((r[i]?).getD 0 : Nat) : Int)]) := by
    refine mapM_some _ fun i hi => ?_
    have hi : i < r.length := by rw [h]; simpa using hi
    have e : ((stc r).drop (i * 1)).take 1 = [ut r[i]] := by
      rw [Nat.mul_one, List.drop_eq_getElem_cons (by simpa using hi)]
      simp
    rw [e, litsU (hr _ (List.getElem_mem _)), List.getElem?_eq_getElem hi]
    rfl
  rw [this]
  match r, h with
  | [_, _, _, _, _, _, _, _, _, _, _, _, _, _, _, _], _ => rfl

theorem lits25 {r : List Nat} (h : St r) : Tryd.prog.keyLits 3 25 (stc r) = some (r.map fun (x : Nat) => Lit.int .u64 (x : Int)) := by
  unfold Program.keyLits
  simp only [u25]
  rw [if_pos ⟨by rw [stc_len h, c25], n25⟩]
  have e := mapM_mapO fields25.toList (fun f => (f.type, f.offset)) (fun p => Tryd.prog.keyLits 2 p.1 (((stc r).drop p.2).take (Tryd.prog.cellsOf p.1)))
  rw [f25] at e
  refine (congrArg (Option.map List.flatten) e).trans ?_
  rw [List.mapM_cons, List.mapM_cons, List.mapM_nil]
  simp only [cR, cU]
  have e1 : ((stc r).drop 0).take 16 = stc (r.take 16) := by simp [stc, List.map_take]
  have hl := h.len
  have e2 : ((stc r).drop 16).take 1 = [ut (rg r 16)] := by
    have hi : 16 < (stc r).length := by rw [stc_len h]; decide
    rw [List.drop_eq_getElem_cons hi]
    have := h.cell (i := 16) (by decide)
    rw [show (16 : Int).toNat = 16 from rfl, List.getElem?_eq_getElem hi] at this
    simp only [Option.some.injEq] at this
    rw [this]
    rfl
  rw [e1, e2, litsR (d := 0) (by simp [hl]) (fun x hx => h.lt x (List.mem_of_mem_take hx)), litsU (d := 1) (h.rg_lt 16)]
  show some (((r.take 16).map fun (x : Nat) => Lit.int .u64 (x : Int)) ++ ([Lit.int .u64 (rg r 16 : Int)] ++ [])) = _
  have e3 : r = r.take 16 ++ [rg r 16] := by
    have := h.get (i := 16) (by decide)
    rw [show (16 : Int).toNat = 16 from rfl] at this
    have ht : r.take 17 = r.take 16 ++ [rg r 16] := by rw [List.take_add_one, this]; rfl
    rw [← ht, List.take_of_length_le (by omega)]
  conv => rhs; rw [e3]
  simp

theorem rStEq {r q : List Nat} (hr : St r) (hq : St q) {K : Value → Prop} (k : K (.bool (decide (r = q)))) : vAggEq Tryd.prog 25 .eql (stv r) (stv q) K := by
  refine ⟨4, 3, 3, _, _, by decide, kt25, by simp [Value.formed, u25, c25, hr.len], by simp [Value.formed, u25, c25, hq.len], lits25 hr, lits25 hq, eg25, fun b hb => ?_⟩
  have e : (r.map fun (x : Nat) => Lit.int .u64 (x : Int)) = (q.map fun (x : Nat) => Lit.int .u64 (x : Int)) ↔ r = q := by
    refine ⟨fun h => ?_, fun h => by rw [h]⟩
    refine (List.map_inj_right ?_).1 h
    intro a b hab
    simp only [Lit.int.injEq, true_and] at hab
    omega
  have : b = decide (r = q) := by
    rw [Bool.eq_iff_iff, hb, e, decide_eq_true_eq]
  rw [this]
  exact k

/-! ### Two memories -/

structure Two (w0 w : World) (g1 : Gh) (l1 : List UInt8) (g2 : Gh) (l2 : List UInt8) : Prop where
  own1 : Own w0 w g1 l1.length (cont l1)
  own2 : Own w0 w g2 l2.length (cont l2)
  dis : ∀ k, g1.sees k → ¬ g2.sees k

section
variable {w0 w w' : World} {g1 g2 g' : Gh} {l1 l2 l' : List UInt8} {p : Nat} {r r' : List Nat}

theorem Two.symm (h : Two w0 w g1 l1 g2 l2) : Two w0 w g2 l2 g1 l1 := ⟨h.own2, h.own1, fun k h1 h2 => h.dis k h2 h1⟩
theorem Two.more (h : Two w0 w g1 l1 g2 l2) (f : Fr (fun _ => False) w w') : Two w0 w' g1 l1 g2 l2 := ⟨h.own1.more f, h.own2.more f, h.dis⟩

theorem Two.evp (h : Two w0 w g1 l1 g2 l2) (e : Evp w g1 p w' g') (hp : ¬ g2.sees p) (ho : Own w0 w' g' l'.length (cont l')) : Two w0 w' g' l' g2 l2 := by
  have hlt := h.own2.ge
  refine ⟨ho, ⟨ho.fr, h.own2.mine, h.own2.by'.fr e.fr fun k hk hf => ?_, h.own2.len, h.own2.le, h.own2.zero⟩, fun k h1 h2 => ?_⟩
  · rcases hf with x | x
    · exact hp (x ▸ hk)
    · exact h.dis k (.inl x) hk
  · have hk := hlt k h2
    rcases h1 with x | x
    · rcases e.foot k x with x | x
      · exact h.dis k (.inl x) h2
      · omega
    · rcases e.sees k x with x | x
      · exact h.dis k x h2
      · omega

theorem Two.evo (h : Two w0 w g1 l1 g2 l2) (e : Evo w g1 w' g') (ho : Own w0 w' g' l'.length (cont l')) : Two w0 w' g' l' g2 l2 := by
  have hlt := h.own2.ge
  exact h.evp (p := w.heap.size) (.of_evo e) (fun hp => by have := hlt _ hp; omega) ho

theorem Own.base {n : Nat} {c : Nat → UInt8} (h : Own w w' g' n c) (f : Fr (fun _ => False) w0 w) : Own w0 w' g' n c :=
  ⟨f.trans h.fr fun _ _ => id, fun k hk => Nat.le_trans f.size (h.mine k hk), h.by', h.len, h.le, h.zero⟩

/-- one that is made later -/
theorem Two.new (h : Own w0 w g1 l1.length (cont l1)) (k : Own w w' g2 l2.length (cont l2)) : Two w0 w' g1 l1 g2 l2 := by
  have hlt := h.ge
  refine ⟨h.more k.fr, k.base h.fr, fun x h1 h2 => ?_⟩
  have := hlt x h1
  have := k.mine x h2
  omega

end

theorem cont_zeros (m : Nat) : (fun _ => (0 : UInt8)) = cont (List.replicate m 0) := by
  funext i
  unfold cont
  rw [List.getElem?_replicate]
  split <;> rfl

theorem over_one (r : List Nat) (l : List UInt8) : overP 1 0 r l = if (stepP r l).2.2 = 0 then ((stepP r l).1, (stepP r l).2.1, 1, 0) else ((stepP r l).1, (stepP r l).2.1, 0, (stepP r l).2.2) := by
  by_cases h : (stepP r l).2.2 = 0
  · rw [overP_go h, if_pos h]; rfl
  · rw [overP_end h, if_neg h]

theorem b35 : (fun (a : Option Addr) (K : Value → Prop) => vBuild Tryd.prog 35 [(0, .pointer a)] K) = fun a K => ((1 : Nat) = 1 ∧ K (.agg #[.pointer a])) := by kernel_rfl
theorem build35 {b : Nat} {K : Value → Prop} (k : K (.agg #[pt b 0])) : vBuild Tryd.prog 35 [(0, pt b 0)] K := by
  have := congrFun (congrFun b35 (some ⟨b, 0, none⟩)) K
  exact this ▸ ⟨rfl, k⟩

/-- a whole text is written into a fresh memory -/
theorem fill_spec {w0 w : World} {g : Gh} {s : List UInt8} {K : Value → World → Prop} (h : Own w0 w g s.length (fun _ => 0)) (hK : ∀ w' g', Evo w g w' g' → Own w0 w' g' s.length (cont s) → K (it 0) w') :
    vBuildSlice Tryd.prog 63 1 [(0, str s)] w fun v w => CallK Tryd.prog 12 #[pt g.b 0, it 0, v] w K := by
  refine bs41_1 ?_
  intro w2 c2 f2 s2
  refine (h.more f2).writeE (by decide) (by decide) (parts_one c2) ?_
  intro w3 g3 evo h3
  have e0 : fitsE s.length 0 s.length = 0 := by
    unfold fitsE
    rw [if_neg (by omega)]
  rw [e0, if_pos rfl, Int.toNat_zero, wrl_all _ _ rfl] at h3
  rw [e0]
  exact hK w3 g3 (evo.fore f2) h3

theorem movesP_len (r : List Nat) (l : List UInt8) (c : Cd) : (movesP r l c).2.1.length = l.length := by
  unfold movesP
  split
  · exact stR_len _ _ _
  · split <;> rfl

theorem iteP {α : Type} (M : α → Prop) {p : Prop} [Decidable p] {a b : α} (ha : p → M a) (hb : ¬ p → M b) : M (if p then a else b) := by
  split
  · rename_i h; exact ha h
  · rename_i h; exact hb h

theorem doP_len (r : List Nat) (l : List UInt8) (c : Cd) : (doP r l c).2.1.length = l.length := by
  have M := @iteP _ (fun (x : List Nat × List UInt8 × Int) => x.2.1.length = l.length)
  unfold doP
  refine M (fun _ => rfl) fun _ => M (fun _ => rfl) fun _ => M (fun _ => rfl) fun _ => M (fun _ => rfl) fun _ => M (fun _ => rfl) fun _ => M (fun _ => rfl) fun _ => M (fun _ => M (fun _ => movesP_len r l c) fun _ => rfl) fun _ => M (fun _ => rfl) fun _ => M (fun _ => rfl) fun _ => M (fun _ => rfl) fun _ => M (fun _ => rfl) fun _ => M (fun _ => rfl) fun _ => rfl

theorem stepP_len (r : List Nat) (l : List UInt8) : (stepP r l).2.1.length = l.length := by
  unfold stepP
  split
  · rfl
  · split
    · rfl
    · exact doP_len _ _ _

/-- CpuSteps -/
theorem law3 {w : World} {s : List UInt8} {r : List Nat} {K : Value → World → Prop} (hT : Tabs w) (hr : St r) (hK : ∀ w', Fr (fun _ => False) w w' → K (.bool true) w') : Ret Tryd.prog 3 #[str s, stv r] w K := by
  apply F3_ok
  unfold F3
  refine rBoxA ?_
  intro w1 c1 f1 s1
  have hc1 : Cs w1 w.heap.size (stc r) := c1
  refine lives_spec (hT.fr f1) ?_
  intro w2 f2
  have f02 := f1.more f2
  have c2 := hc1.fr f2 id
  refine rNot <| rIfF <| rLenB <| rGt <| rIf (fun hb => hK w2 f02) (fun hb => ?_)
  have hb : ¬ (4096 : Int) < s.length := by simpa using hb
  have hq2 := c2.lt
  refine rLenB <| Own.new (Fr.refl _ _) (fun hx => by omega) ?_
  intro m hm hle w3 g1 o1
  have hms : m = s.length := by omega
  subst hms
  refine rExt0 <| rExt1 <| rLenB <| Own.new (Fr.refl _ _) (fun hx => by omega) ?_
  intro m hm hle' w4 g2 o2
  have hms : m = s.length := by omega
  subst hms
  rw [cont_zeros s.length] at o1 o2
  have t1 : Two w2 w4 g1 (List.replicate s.length 0) g2 (List.replicate s.length 0) := Two.new (by simpa using o1) (by simpa using o2)
  have c4 := (c2.fr o1.fr id).fr o2.fr id
  refine rExt0 <| rExt1 ?_
  refine ⟨fun vs ds W => ds = [] ∧ ∃ g1' g2', g1'.b = g1.b ∧ g2'.b = g2.b ∧ vs = [str s, pt w.heap.size 0, pt g1.b 0, pt g2.b 0, .bool false] ∧ Two w2 W g1' s g2' s, ?_, ?_⟩
  · refine rNe <| rIfF <| rNe <| rIfF ?_
    have a1 := t1.own1
    rw [← cont_zeros] at a1
    simp only [List.length_replicate] at a1
    refine fill_spec a1 ?_
    intro w5 g1' e1 o1'
    have t2 := t1.evo e1 o1'
    refine rNe <| rIfF ?_
    have a2 := t2.own2
    rw [← cont_zeros] at a2
    simp only [List.length_replicate] at a2
    refine fill_spec a2 ?_
    intro w6 g2' e2 o2'
    have t3 := (t2.symm.evo e2 o2').symm
    exact rNe ⟨rfl, g1', g2', e1.b, e2.b, rfl, t3⟩
  rintro ρ ds W ⟨rfl, g1', g2', hb1, hb2, hρ, t⟩
  simp only [List.map_cons, List.map_nil, List.cons.injEq, and_true] at hρ
  obtain ⟨e0, e3, e5, e7, e54⟩ := hρ
  unfold F3J1
  rw [e0, e3, e5, e7, e54]
  have cW := c2.fr t.own1.fr id
  refine rIfF <| ld17 hr cW <| rAllocT zc25 ?_
  intro w5 h5 f5 s5
  have d5 : Cs w5 W.heap.size (stc (List.replicate 17 0)) := ⟨_, h5⟩
  refine rStN d5 (by simp [hr.len]) (by simp) (stc_one r) ?_
  intro w6 u6
  have d6 : Cs w6 W.heap.size (stc r) := by
    have := u6.cs
    have e2 : spl (stc (List.replicate 17 0)) 0 (stc r).toArray.toList = stc r := by simp [spl, hr.len]
    rw [e2] at this
    exact this
  have f56 : Fr (fun _ => False) W w6 := f5.trans u6.fr fun k hk e => by omega
  have t6 := t.more f56
  have hlt1 := t.own1.ge
  have hlt2 := t.own2.ge
  have hsW := t.own1.fr.size
  have hsm : Sm w2 w6 g1' s W.heap.size r := ⟨t6.own1, d6, hr, fun hs => by have := hlt1 _ hs; omega, hsW⟩
  have c6 := cW.fr f56 id
  refine build35 ?_
  have hT2 := hT.fr f02
  show CallK Tryd.prog 13 #[pt W.heap.size 0, .iface 35 (.agg #[pt g1.b 0])] w6 _
  refine step_spec hT2 hsm (by rw [hb1]; exact memLaw _) ?_
  intro w7 g1'' e7' h7
  have t7 := t6.evp e7' (fun hs => by have := hlt2 _ hs; omega) h7.own
  have c7 : Cs w7 w.heap.size (stc r) := c6.fr e7'.fr (by
    rintro (e | e)
    · have := cW.lt; omega
    · have := t.own1.mine _ (.inl e); omega)
  refine ld17 hr c7 ?_
  rw [← hb2]
  refine over_spec (n := 1) hT2 t7.own2 hr (by decide) (by decide) ?_
  rw [show (1 : Int).toNat = 1 from rfl]
  intro w8 g2'' e8 o8 hs8
  have t8 := (t7.symm.evo e8 o8).symm
  have h8st : Cs w8 W.heap.size (stc (stepP r s).1) := h7.st.fr e8.fr fun hf => by have := hlt2 _ (.inl hf); omega
  have hst := h7.ok
  have hb2' : g2''.b = g2.b := e8.b.trans hb2
  have hb1' : g1''.b = g1.b := e7'.b.trans hb1
  refine rT0 <| rT1 <| rT2 <| rAllocT zc25 ?_
  intro w9 h9 f9 s9
  have d9 : Cs w9 w8.heap.size (stc (List.replicate 17 0)) := ⟨_, h9⟩
  refine rStN d9 (by simp [hs8.len]) (by simp) (stc_one _) ?_
  intro w10 u10
  have d10 : Cs w10 w8.heap.size (stc (overP 1 0 r s).1) := by
    have := u10.cs
    have e2 : spl (stc (List.replicate 17 0)) 0 (stc (overP 1 0 r s).1).toArray.toList = stc (overP 1 0 r s).1 := by simp [spl, hs8.len]
    rw [e2] at this
    exact this
  have f10 : Fr (fun _ => False) w8 w10 := f9.trans u10.fr fun k hk e => by omega
  have t10 := t8.more f10
  have p10 := h8st.fr f10 id
  have hone := over_one r s
  have hst1 : (overP 1 0 r s).1 = (stepP r s).1 := by rw [hone]; split <;> rfl
  have hme1 : (overP 1 0 r s).2.1 = (stepP r s).2.1 := by rw [hone]; split <;> rfl
  rw [hst1] at d10
  rw [hme1] at t10
  refine joinOne (L := [str s, pt g1.b 0, pt g2.b 0, pt W.heap.size 0, pt w8.heap.size 0]) (ds := []) (w := w10) ?_ ?_
  · rw [hb2]
    refine rEq <| rIf (fun h0 => ?_) (fun h0 => ?_)
    · have h0 : (stepP r s).2.2 = 0 := by simpa using h0
      rw [hone, if_pos h0, h0]
      exact rNe <| rIfF <| rNe <| rIfF <| rNe <| rIfF ⟨rfl, rfl, rfl⟩
    · have h0 : ¬ (stepP r s).2.2 = 0 := by simpa using h0
      rw [hone, if_neg h0]
      refine rNe <| rIf (fun _ => rNe <| rIfF <| rNe ?_) (fun _ => ⟨rfl, rfl, rfl⟩)
      have : ((stepP r s).2.2 != (stepP r s).2.2) = false := by simp
      rw [this]
      exact rIfF ⟨rfl, rfl, rfl⟩
  intro ρ hρ
  simp only [List.map_cons, List.map_nil, List.cons.injEq, and_true] at hρ
  obtain ⟨e0, e5, e7, e9, e11⟩ := hρ
  unfold F3J2
  rw [e0, e5, e7, e9, e11]
  have hlen : (stepP r s).2.1.length = s.length := stepP_len r s
  have q1 := t10.own1
  have q2 := t10.own2
  have hrd : ∀ {w0 w' : World} {g : Gh} {K : Value → World → Prop}, Own w0 w' g (stepP r s).2.1.length (cont (stepP r s).2.1) → (∀ w'', Fr (fun _ => False) w' w'' → K (.tuple #[str (stepP r s).2.1, it 0]) w'') → CallK Tryd.prog 15 #[pt g.b 0, it 0, it s.length] w' K := by
    intro w0 w' g K o k
    have hle := o.le
    refine o.read (by decide) (by decide) ?_
    intro w2 h2 f2
    have e0 : fitsE (stepP r s).2.1.length 0 s.length = 0 := by
      unfold fitsE
      rw [if_neg (by omega)]
    rw [e0, if_pos rfl, Int.toNat_zero, Int.toNat_natCast, ← hlen, seg_cont_all]
    exact k w2 f2
  rw [← hb1', ← hb2']
  refine rLenB <| hrd q1 ?_
  intro w11 f11
  refine rExt0 <| rExt1 <| rLenB <| hrd (q2.more f11) ?_
  intro w12 f12
  have f1012 := f11.more f12
  refine rExt0 <| rExt1 <| ld17 hst (p10.fr f1012 id) <| ld17 hst (d10.fr f1012 id) <| rStEq hst hst ?_
  rw [decide_eq_true rfl]
  refine rIfT <| rSEq ?_
  rw [beq_self_eq_true]
  exact hK w12 ((f02.more q1.fr).more f1012)

end Go.Proofs.YtmaecpbkbkncgaaDoor
