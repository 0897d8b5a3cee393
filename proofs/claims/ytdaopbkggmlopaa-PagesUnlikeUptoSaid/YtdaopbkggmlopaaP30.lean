/-
  Pages, part 30: the law PagesPlay: it returns true. Own work.
-/
import Derived.Test.YtdaopbkggmlopaaP29
set_option linter.unusedVariables false
set_option linter.unusedSimpArgs false
namespace Go.Proofs.Ytdaopbkggmlopaa
open Go Go.V Go.RowKit

theorem zc44 : zc Try.prog 44 = some #[it 0, it 0, it 0, .slice none 0 0, .int .u64 0] := by kernel_rfl

theorem Row.ldS {S : World → Prop} {v : Value} {xs : List Value} {bl : Option Nat} (hS : ∀ w, S w → Row w v xs bl) {w : World} (h : S w) {i : Nat} {x : Value} (hx : xs[i]? = some x) {kd : IntKind} {K : Value → Prop} (k : K x) :
    vIA (.slice 1) v (.int kd i) fun p => vLdS S .one p K := by
  have hi := (List.getElem?_eq_some_iff.1 hx).1
  cases bl with
  | none => obtain ⟨_, rfl⟩ := hS w h; simp at hi
  | some q =>
    obtain ⟨r, rfl, _⟩ := hS w h
    refine rIA hi <| rLdS x (fun W hW => ?_) k
    obtain ⟨r', _, hc⟩ := hS W hW
    exact ⟨_, hc, by rw [Nat.mul_one, List.getElem?_append_left hi]; exact hx⟩

/-- what is looked at in the end -/
theorem law5_end {w0 W : World} {g : Gh} {l : List UInt8} {v : Value} {bl : Option Nat} {olds : List OldX} {vo vh : Value} {blo blh : Option Nat} {K : Value → World → Prop} (h : Play w0 W g l v bl olds vo vh blo blh)
    (hn : olds.length ≤ 200) (hK : ∀ w', Fr (fun _ => False) w0 w' → K (.bool true) w') : ∀ (ρ : Env), [5, 7, 8, 9].map ρ = [pt g.b 0, v, vo, vh] → F5J2 K ρ [] W := by
  intro ρ hρ
  simp only [List.map_cons, List.map_nil, List.cons.injEq, and_true] at hρ
  obtain ⟨e5, e7, e8, e9⟩ := hρ
  unfold F5J2
  rw [e5, e7, e8, e9]
  obtain ⟨_, _, a8, c8, hv8⟩ := h.ro.val
  have hlen : ∀ {K : Value → Prop}, K (it olds.length) → vLen (.slice 1) vo K := by
    intro K k
    rw [hv8, List.length_map]
    exact k
  refine hlen ?_
  refine ⟨fun vs ds V => ds = [] ∧ ∃ i : Nat, i ≤ olds.length ∧ vs = [pt g.b 0, v, vo, vh, it olds.length, it i] ∧ Play w0 V g l v bl olds vo vh blo blh,
    fun vs _ _ => match vs with | [_, _, _, _, _, .int _ i] => olds.length - i.toNat | _ => 0, ⟨rfl, 0, by omega, rfl, h⟩, ?_⟩
  rintro ρ ds V ⟨rfl, i, hi, hρ, hV⟩
  have hρ0 := hρ
  simp only [List.map_cons, List.map_nil, List.cons.injEq, and_true] at hρ
  obtain ⟨e5, e7, e8, e9, e83, e84⟩ := hρ
  unfold F5L1
  rw [hρ0, e5, e7, e8, e9, e83, e84]
  refine rLt <| rIf (fun hlt => ?_) (fun hge => ?_)
  · have hlt : i < olds.length := by simpa using hlt
    have hx := List.getElem?_eq_getElem hlt
    refine ⟨fun W => Row W vo (olds.map fun x => pt x.1.b 0) blo ∧ Row W vh (olds.map fun x => x.2.2.1) blh, ⟨hV.ro.fr (Fr.refl _ V).drew fun _ _ => id, hV.rh.fr (Fr.refl _ V).drew fun _ _ => id⟩, ?_⟩
    refine Row.ldS (fun _ h => h.1) (w := V) ⟨hV.ro, hV.rh⟩ (x := pt (olds[i]).1.b 0) (by rw [List.getElem?_map, hx]; rfl) ?_
    refine Row.ldS (fun _ h => h.2) (w := V) ⟨hV.ro, hV.rh⟩ (x := (olds[i]).2.2.1) (by rw [List.getElem?_map, hx]; rfl) ?_
    refine ⟨?_, trivial⟩
    have hVd := hV.more (Fr.refl _ V).drew
    have ho := hVd.old _ (List.getElem_mem hlt)
    refine whole17 ho.own ho.bs ?_
    intro w5 f5
    have h5 := hVd.more f5
    refine ⟨⟨h5.ro, h5.rh⟩, rNot <| rIfF <| rAdd (by omega) (by omega) ?_⟩
    have ei : (i : Int) + 1 = ((i + 1 : Nat) : Int) := by omega
    rw [ei]
    refine ⟨⟨rfl, i + 1, by omega, rfl, h5⟩, ?_⟩
    show olds.length - ((i + 1 : Nat) : Int).toNat < olds.length - ((i : Nat) : Int).toNat
    simp; omega
  · refine whole17 hV.own hV.bs ?_
    intro w6 f6
    exact hK w6 (hV.more f6).own.fr

theorem law5_loop {w0 W : World} {g : Gh} {l : List UInt8} {v sc : Value} {bl : Option Nat} {os : List OpV} {K : Value → World → Prop} (h : Play w0 W g l v bl [] (.slice none 0 0) (.slice none 0 0) none none) (ho : Ops w0 sc os)
    (hK : ∀ w', Fr (fun _ => False) w0 w' → K (.bool true) w') {J2 : List Value → List Nat → World → Prop}
    (hJ : ∀ V g l v bl olds vo vh blo blh, Play w0 V g l v bl olds vo vh blo blh → olds.length ≤ 200 → J2 [pt g.b 0, v, vo, vh] [] V) :
    loopF [5, 7, 8, 9, 40, 41, 42] [pt g.b 0, v, .slice none 0 0, .slice none 0 0, sc, it os.length, it 0] [] W (F5L2 J2 K) := by
  refine ⟨fun vs ds V => ds = [] ∧ ∃ (i : Nat) (g : Gh) (l : List UInt8) (v : Value) (bl : Option Nat) (olds : List OldX) (vo vh : Value) (blo blh : Option Nat), i ≤ os.length ∧ i ≤ 200 ∧ olds.length ≤ i ∧ vs = [pt g.b 0, v, vo, vh, sc, it os.length, it i] ∧ Play w0 V g l v bl olds vo vh blo blh,
    fun vs _ _ => match vs with | [_, _, _, _, _, _, .int _ i] => os.length - i.toNat | _ => 0, ⟨rfl, 0, g, l, v, bl, [], _, _, none, none, by omega, by omega, by simp, rfl, h⟩, ?_⟩
  rintro ρ ds V ⟨rfl, i, g, l, v, bl, olds, vo, vh, blo, blh, hi, hi2, hol, hρ, hV⟩
  have hρ0 := hρ
  simp only [List.map_cons, List.map_nil, List.cons.injEq, and_true] at hρ
  obtain ⟨q5, q7, q8, q9, q40, q41, q42⟩ := hρ
  unfold F5L2
  rw [hρ0, q5, q7, q8, q9, q40, q41, q42]
  refine rLt <| rIf (fun hlt => ?_) (fun hge => hJ V g l v bl olds vo vh blo blh hV (by omega))
  have hlt : i < os.length := by simpa using hlt
  have hx := List.getElem?_eq_getElem hlt
  have hok := ho.ok _ (List.getElem_mem hlt)
  generalize os[i] = o at hx hok
  obtain ⟨kd, a, n, pv, xs, x⟩ := o
  refine ho.get V hV.own.fr i _ hx _ ?_
  refine rAllocT zc44 ?_
  intro w5 k5 f5 s5
  refine rStN (n := 5) ⟨44, k5⟩ rfl (by simp) (by
    obtain ⟨_, c, hp⟩ := hok.s.shape
    simp only at hp
    intro y hy
    simp only [OpV.cells, List.mem_cons, List.not_mem_nil, or_false] at hy
    rcases hy with rfl | rfl | rfl | rfl | rfl <;> first | rfl | (rw [hp]; rfl)) ?_
  intro w6 u6
  have f56 : Fr (fun _ => False) V w6 := f5.trans u6.fr (fun k hk e => by omega)
  have h6 := hV.more f56
  have c6 : Cs w6 V.heap.size [it kd, it a, it n, pv, .int .u64 x] := u6.cs
  have step_next : (i : Int) + 1 = ((i + 1 : Nat) : Int) := by omega
  have dec : os.length - ((i + 1 : Nat) : Int).toNat < os.length - ((i : Nat) : Int).toNat := by simp; omega
  refine rGe <| rIf (fun hge => ?_) (fun h200 => ?_)
  · exact hJ w6 g l v bl olds vo vh blo blh h6 (by omega)
  have h200 : i < 200 := by
    have : ¬ (200 : Int) ≤ (i : Int) := by simpa using h200
    omega
  refine rFA0 <| rLd c6 rfl <| rEq <| rIf (fun hk6 => ?_) (fun hk6 => ?_)
  · refine copy15 h6.own ?_
    intro w7 g7 q1 q2 f7 hf7 hs7
    obtain ⟨p1, p2, p3, p4, p5, p6, p7, p8⟩ := h6.copied q1 q2 f7 hf7 hs7
    refine rPNil' <| rIfF <| e39.build1 rfl ?_
    intro w8 r8 f8 s8
    obtain ⟨p1, p2, p4⟩ := Play.aside p1 p2 p4 f8 (fun _ => False.elim)
    refine e39.app (p5.fr f8 fun _ _ => id) r8.src (by simp; rfl) (by simp; omega) ?_
    intro w9 v9 bl9 r9 f9 hb9 _
    obtain ⟨p1, p2, p4⟩ := Play.aside p1 p2 p4 f9 (fun k hk => ⟨(p7 k hk).1, (p7 k hk).2.1⟩)
    have p6b := (p6.fr f8 fun _ _ => id).fr f9 (fun k hk e => (p7 k e).2.2 hk)
    refine e40.build1 (by obtain ⟨_, _, hv⟩ := p2.shape; rw [hv]; rfl) ?_
    intro w10 r10 f10 s10
    obtain ⟨p1, p2, p4⟩ := Play.aside p1 p2 p4 f10 (fun _ => False.elim)
    refine e40.app (p6b.fr f10 fun _ _ => id) r10.src (by obtain ⟨_, _, hv⟩ := p2.shape; simp only [List.mem_singleton, forall_eq]; rw [hv]; rfl) (by simp; omega) ?_
    intro w11 v11 bl11 r11 f11 hb11 _
    obtain ⟨p1, p2, p4⟩ := Play.aside p1 p2 p4 f11 (fun k hk => ⟨(p8 k hk).1, (p8 k hk).2⟩)
    have hblo : ∀ k, bl9 = some k → k < w10.heap.size := fun k hk => by have := r9.lt' k hk; omega
    have r9 := (r9.fr f10 fun _ _ => id).fr f11 (fun k hk e => by
      rcases hb9 k hk with e2 | e2
      · exact (p7 k e2).2.2 e
      · have := p6.lt' k e
        have := f8.size
        omega)
    refine rAdd (by omega) (by omega) ?_
    rw [step_next]
    have s67 := f7.size
    have s06 : w0.heap.size ≤ w6.heap.size := h6.own.fr.size
    have s89 := f9.size
    -- blocks that are new by now are seen by nothing
    have fresh : ∀ k, w7.heap.size ≤ k → w7.heap.size ≤ k → FreeOf g7 bl (olds ++ [(g.shut, l, v, bl)]) k := by
      intro k hk _
      have q2' := q2.sees_lt
      obtain ⟨p1', p2', p3', p4', _⟩ := h6.copied q1 q2 f7 hf7 hs7
      refine ⟨fun e => by have := q2' k e; omega, fun e => by have := p2'.lt k e; omega, fun y hy => ⟨fun e => ?_, fun e => ?_⟩⟩
      · have := (p4' y hy).own.sees_lt k e; omega
      · have := (p4' y hy).bs.lt k e; omega
    refine ⟨⟨rfl, i + 1, g7, l, v, bl, olds ++ [(g.shut, l, v, bl)], v9, v11, bl9, bl11, by omega, by omega, by simp; omega, rfl, ⟨p1, p2, p3, p4, by rw [List.map_append]; exact r9, by rw [List.map_append]; exact r11, ?_, ?_⟩⟩, dec⟩
    · intro k hk
      have hlt10 := hblo k hk
      refine ⟨?_, ?_, fun e => ?_⟩
      · rcases hb9 k hk with e | e
        · exact (p7 k e).1
        · omega
      · rcases hb9 k hk with e | e
        · exact (p7 k e).2.1
        · exact fresh k (by omega) (by omega)
      · rcases hb11 k e with e2 | e2
        · rcases hb9 k hk with e3 | e3
          · exact (p7 k e3).2.2 e2
          · have := h6.rh.lt' k e2; omega
        · omega
    · intro k hk
      rcases hb11 k hk with e | e
      · exact ⟨(p8 k e).1, (p8 k e).2⟩
      · exact ⟨by omega, fresh k (by omega) (by omega)⟩
  · refine rLdN c6 (by simp) ?_
    show CallK Try.prog 16 #[pt g.b 0, v, .agg #[it kd, it a, it n, pv, .int .u64 x]] w6 _
    refine step16 h6.own h6.bs h6.apart hok.a1 hok.a2 hok.x (by
      exact ⟨hok.s.shape, hok.s.get, hok.s.src⟩) hok.n hok.l ?_
    intro w7 g7 v7 l7 bl7 evo own7 bs7 hb7 ha7
    have h7 := h6.step evo own7 bs7 hb7 ha7
    refine rExt0 <| rExt1 <| rNot <| rIfF ?_
    rw [← evo.b]
    refine whole17 h7.own h7.bs ?_
    intro w8 f8
    refine rNot <| rBool <| rIfF <| rAdd (by omega) (by omega) ?_
    rw [step_next]
    exact ⟨⟨rfl, i + 1, g7, l7, v7, bl7, olds, vo, vh, blo, blh, by omega, by omega, by omega, rfl, h7.more f8⟩, dec⟩

theorem law5 {w : World} {n : Int} {sc : Value} {os : List OpV} {K : Value → World → Prop} (ho : Ops w sc os) (hK : ∀ w', Fr (fun _ => False) w w' → K (.bool true) w') : Ret Try.prog 5 #[it n, sc] w K := by
  apply F5_ok
  unfold F5
  refine lives_spec ?_
  intro w1 f1
  refine rNot <| rIfF ?_
  by_cases hn : n < 0 ∨ 4096 < n
  · refine Own.new (w0 := w) f1 (fun _ w2 f2 => ?_) (fun m hm hm2 => by omega)
    refine rExt0 <| rExt1 <| size14 ?_
    have hd : decide (0 ≤ n ∧ n ≤ 4096) = false := decide_eq_false (by omega)
    rw [hd]
    refine rNot <| rIfT <| rEq <| rIfT <| rPNil <| rBool ?_
    exact hK w2 f2
  · refine Own.new (w0 := w) f1 (fun h => absurd h hn) ?_
    intro m hm hm2 w2 g h2
    subst hm
    refine rExt0 <| rExt1 <| size14 ?_
    have hd : decide (0 ≤ (m : Int) ∧ (m : Int) ≤ 4096) = true := decide_eq_true (by omega)
    rw [hd]
    refine rNot <| rIfF ?_
    refine ⟨fun vs ds V => vs = [it m, sc, pt g.b 0] ∧ ds = [] ∧ V = w2, rNe <| rIfF <| rPNil' <| rBool <| rIfF ⟨rfl, rfl, rfl⟩, ?_⟩
    rintro ρ ds V ⟨hρ, rfl, rfl⟩
    simp only [List.map_cons, List.map_nil, List.cons.injEq, and_true] at hρ
    obtain ⟨e0, e1, e5⟩ := hρ
    unfold F5J1
    rw [e0, e1, e5]
    refine mk38 (by omega) ?_
    intro w4 v4 b4 f4 s4
    have hc : (fun _ : Nat => (0 : UInt8)) = cont (List.replicate m 0) := by
      funext i
      unfold cont
      rw [List.getElem?_replicate]
      split <;> rfl
    have h4 : Own w w4 g (List.replicate m (0 : UInt8)).length (cont (List.replicate m 0)) := by
      rw [← hc, List.length_replicate]
      exact h2.more f4
    have hP : Play w w4 g (List.replicate m 0) v4 (some V.heap.size) [] (.slice none 0 0) (.slice none 0 0) none none :=
      ⟨h4, b4, fun k hk hf => by simp only [Option.some.injEq] at hk; have := h2.lt k hf; omega, by simp, ⟨rfl, rfl⟩, ⟨rfl, rfl⟩, by simp, by simp⟩
    refine ⟨fun vs ds V => ds = [] ∧ ∃ g l v bl olds vo vh blo blh, Play w V g l v bl olds vo vh blo blh ∧ olds.length ≤ 200 ∧ vs = [pt g.b 0, v, vo, vh], ?_, ?_⟩
    · refine ho.lenE ?_
      exact law5_loop hP ho hK fun V g l v bl olds vo vh blo blh h hl => ⟨rfl, g, l, v, bl, olds, vo, vh, blo, blh, h, hl, rfl⟩
    · rintro ρ ds V ⟨rfl, g, l, v, bl, olds, vo, vh, blo, blh, h, hl, hρ⟩
      exact law5_end h hl hK ρ hρ

end Go.Proofs.Ytdaopbkggmlopaa
