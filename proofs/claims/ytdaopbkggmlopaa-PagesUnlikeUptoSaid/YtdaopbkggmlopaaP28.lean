/-
  Pages, part 28: a Write on both; step, whole; whole. Own work.
-/
import Derived.Test.YtdaopbkggmlopaaP27
set_option linter.unusedVariables false
set_option linter.unusedSimpArgs false
namespace Go.Proofs.Ytdaopbkggmlopaa
open Go Go.V Go.RowKit

theorem rSlHd {q n c m : Nat} {kd : IntKind} {K : Value → Prop} (hm : m ≤ n) (h0 : c ≠ 0) (hn : n ≤ c) (k : K (sv q m c)) : vSlice (.slice 1) (sv q n c) none (some (.int kd m)) K := by
  refine ⟨by omega, by omega, ?_⟩
  show K (.slice (if c = 0 then some ⟨q, 0, none⟩ else some (Addr.add ⟨q, 0, none⟩ (0 * 1))) ((m : Int).toNat - 0) (c - 0))
  rw [if_neg h0, addr_add]
  simpa using k

abbrev spare : List UInt8 := [115, 112, 97, 114, 101]

theorem step_write {w0 w : World} {g : Gh} {v pv : Value} {l : List UInt8} {xs : List (List UInt8)} {bl : Option Nat} {kd a n : Int} {x : Nat} {K : Value → World → Prop} (h : Own w0 w g l.length (cont l)) (hb : Bs w v l bl) (hbl : ∀ k, bl = some k → ¬ g.foot k)
    (ha1 : -9223372036854775808 ≤ a) (ha2 : a < 9223372036854775808) (hs : Strs w0 pv xs) (hn : xs.length ≤ 1048576) (hl : xs.flatten.length ≤ 1048576) (hK : Stepped w0 w g bl K)
    (hk : kd = 2) : CallK Try.prog 16 #[pt g.b 0, v, .agg #[it kd, it a, it n, pv, .int .u64 x]] w K := by
  apply Ret.call
  apply F16_ok
  unfold F16
  subst hk
  have hlt := h.lt
  have hle := h.le
  refine rBoxA ?_
  intro w1 c1 f1 s1
  generalize hk5 : w.heap.size = k5 at *
  refine rFA0 <| rLd c1 rfl <| rEq <| rIfF <| rEq <| rIfT <| e41.build0 ?_
  intro w2 r2 f2 s2
  refine rFA0 <| rLd (c1.fr f2 id) rfl ?_
  have g0 := h.fr
  refine e41.app r2 (hs.src w2 ((g0.more f1).more f2)) ?_ (by simp; omega) ?_
  · intro y hy
    obtain ⟨q, _, rfl⟩ := List.mem_map.1 hy
    rfl
  intro w3 v3 bl3 r3 f3 hb3 hne3
  obtain ⟨q3, rfl⟩ := Option.ne_none_iff_exists'.1 (hne3 (by simp))
  have f13 : Fr (fun _ => False) w1 w3 := f2.trans f3 (fun k hk e => by simp only [Option.some.injEq] at e; omega)
  have hq3 : w1.heap.size ≤ q3 := by
    rcases hb3 q3 rfl with e | e
    · simp only [Option.some.injEq] at e; omega
    · omega
  rw [List.nil_append] at r3
  refine e41.build1 rfl ?_
  intro w4 r4 f4 s4
  have q3lt := rowLt r3
  refine e41.app (r3.fr f4 fun _ _ => id) r4.src (by simp; rfl) (by simp; omega) ?_
  intro w5 v5 bl5 r5 f5 hb5 hne5
  obtain ⟨q5, rfl⟩ := Option.ne_none_iff_exists'.1 (hne5 (by simp))
  have f35 : Fr (fun k => k = q3) w3 w5 := (f4.mono fun _ _ => False.elim).trans f5 (fun k hk e => by simp only [Option.some.injEq] at e; exact e.symm)
  have f15 : Fr (fun _ => False) w1 w5 := f13.trans f35 (fun k hk e => by omega)
  have hq5 : w1.heap.size ≤ q5 := by
    have := f13.size
    rcases hb5 q5 rfl with e | e
    · simp only [Option.some.injEq] at e; omega
    · omega
  have c5 := c1.fr f15 id
  have hr5 := r5
  obtain ⟨rest, rfl, cq5⟩ := r5
  -- the region before the Write
  have hS : ∀ (u : Value) (o : Nat), ([it 2, it a, it n, pv, .int .u64 x] : List Value)[o]? = some u → ∀ W, Cs W k5 [it 2, it a, it n, pv, .int .u64 x] → ∃ cs, Cs W k5 cs ∧ cs[o]? = some u := fun u o hv W hW => ⟨_, hW, hv⟩
  refine ⟨fun W => Cs W k5 [it 2, it a, it n, pv, .int .u64 x], c5, rFA0 <| rLdS _ (hS (it a) 1 rfl) <| rFA0 <| rLdS _ (hS pv 3 rfl) <| hs.lenE ?_⟩
  refine rSlHd (by simp) (by simp) (by simp) ⟨?_, trivial⟩
  have f15' : Fr (fun _ => False) w1 w5.drew := f15.drew
  have hOwn5 : Own w0 w5.drew g l.length (cont l) := (h.more f1).more f15'
  have hparts : Parts w5.drew (sv q5 xs.length ((xs.map str ++ [str spare]).length + rest.length)) xs.flatten :=
    parts_row (o := 0) cq5 (fun j y hj => by
      rw [Nat.zero_add, List.append_assoc, List.getElem?_append_left (by simpa using (List.getElem?_eq_some_iff.1 hj).1)]
      simp [hj]) (by simp; omega) (by omega) (by omega)
  refine hOwn5.writeE ha1 ha2 hparts ?_
  intro w8 g8 evo8 h8
  have hk5f : ¬ g.foot k5 := fun hf => by have := hlt k5 hf; omega
  have hq5f : ¬ g.foot q5 := fun hf => by have := hlt q5 hf; omega
  have hsz : w5.drew.heap.size = w5.heap.size := rfl
  have c8 := c5.drew.fr evo8.fr hk5f
  have cq8 := cq5.drew.fr evo8.fr hq5f
  have hb8 : Bs w8 v l bl := ((hb.more f1).more f15').fr evo8.fr hbl
  refine ⟨c8, ?_⟩
  refine ⟨fun W => Cs W k5 [it 2, it a, it n, pv, .int .u64 x], c8, rFA0 <| rLdS _ (hS (it a) 1 rfl) <| rFA0 <| rLdS _ (hS pv 3 rfl) ⟨?_, trivial⟩⟩
  have f8d : Fr (fun _ => False) w8 w8.drew := (Fr.refl _ w8).drew
  refine joined32 hs (h8.fr.more f8d) hn hl ?_
  intro w9 f9
  have f89 := f8d.more f9
  have c9 := c8.fr f89 id
  have cq9 := cq8.fr f89 id
  refine ⟨c9, ?_, trivial⟩
  -- behind the document's Write
  have fin : ∀ (W : World) (v' : Value) (l' : List UInt8) (bl' : Option Nat), Fr (fun _ => False) w9 W → Bs W v' l' bl' → l'.length = l.length → (∀ k, bl' = some k → bl = some k ∨ w9.heap.size ≤ k) → cont l' = (if fitsE l.length a xs.flatten.length = 0 then wrc (cont l) a.toNat xs.flatten else cont l) →
      drawF W fun S_3 => vBin (.int .i64) .eql (it (fitsE l.length a xs.flatten.length)) (it (fitsE l.length a xs.flatten.length)) fun v85 =>
        vBool v85 fun g_2 => if g_2 = true then
          (vFA (some 3) (pt k5 0) fun v88 => vLdS S_3 .one v88 fun v89 => vLen (.slice 1) v89 fun v90 => vIA (.slice 1) (sv q5 (xs.map str ++ [str spare]).length ((xs.map str ++ [str spare]).length + rest.length)) v90 fun v91 => vLdS S_3 .one v91 fun v92 =>
            vBin .string .eql v92 (.string ⟨#[115, 112, 97, 114, 101]⟩) fun v93 => vBool v85 fun b_3 => K (.tuple #[v', (bif b_3 then v93 else (.bool false))]) W.drew)
        else (vBool v85 fun b_4 => K (.tuple #[v', (bif b_4 then undef else (.bool false))]) W.drew) := by
    intro W v' l' bl' f hbs hlen hfresh hcont
    refine ⟨fun V => Cs V k5 [it 2, it a, it n, pv, .int .u64 x] ∧ Cs V q5 (xs.map str ++ [str spare] ++ rest), ⟨(c9.fr f id).drew, (cq9.fr f (F := fun _ => False) id).drew⟩, ?_⟩
    refine rEq ?_
    rw [ieq_refl]
    refine rIfT <| rFA0 <| rLdS pv (fun V hV => ⟨_, hV.1, rfl⟩) <| hs.lenE <| rIA (by simp) <| rLdS (str spare) (fun V hV => ⟨_, hV.2, by simp⟩) <| rSEq ?_
    rw [spare_ne]
    have f8W : Fr (fun _ => False) w8 W.drew := (f89.more f).drew
    rw [← hcont] at h8
    have hbl' := hbs.lt
    have s9 := f9.size
    have s8 := evo8.fr.size
    have s15 := f15.size
    have s11 := f1.size
    have z8 : w8.drew.heap.size = w8.heap.size := rfl
    have evo : Evo w g W.drew g8 := (Evo.fore (f1.more f15') evo8).then f8W (fun _ _ => False.elim)
    refine hK W.drew g8 v' l' bl' evo (by rw [hlen]; exact h8.more f8W) (hbs.more (Fr.refl _ W).drew) (fun k hk => ?_) (fun k hk hf => ?_)
    · rcases hfresh k hk with e | e
      · exact .inl e
      · exact .inr (by omega)
    · have h8lt := h8.lt k hf
      rcases hfresh k hk with e | e
      · rcases evo8.foot k hf with e2 | e2
        · exact hbl k e e2
        · have := hb.lt k e; omega
      · omega
  refine write31 (hb8.more f89) (by omega) hl ha1 ha2 ?_ ?_
  · intro hbad
    refine ⟨c9, rExt0 <| rExt1 ?_⟩
    have := fin w9 v l bl (Fr.refl _ _) (hb8.more f89) rfl (fun _ => .inl) (by rw [hbad]; rfl)
    rw [hbad] at this ⊢
    exact this
  · intro A hA hal w10 v10 q10 hb10 f10 hq10
    refine ⟨c9.fr f10 id, rExt0 <| rExt1 ?_⟩
    have hz : fitsE l.length a xs.flatten.length = 0 := by
      unfold fitsE; rw [if_neg (by omega)]
    have := fin w10 v10 (wrl l A xs.flatten) (some q10) f10 hb10 (wrl_len hal) (fun k hk => by simp only [Option.some.injEq] at hk; omega) (by rw [hz, if_pos rfl, hA, Int.toNat_natCast, cont_wrl hal])
    rw [hz] at this ⊢
    exact this

theorem step16 {w0 w : World} {g : Gh} {v pv : Value} {l : List UInt8} {xs : List (List UInt8)} {bl : Option Nat} {kd a n : Int} {x : Nat} {K : Value → World → Prop} (h : Own w0 w g l.length (cont l)) (hb : Bs w v l bl) (hbl : ∀ k, bl = some k → ¬ g.foot k)
    (ha1 : -9223372036854775808 ≤ a) (ha2 : a < 9223372036854775808) (hx : x < 18446744073709551616) (hs : Strs w0 pv xs) (hn : xs.length ≤ 1048576) (hl : xs.flatten.length ≤ 1048576) (hK : Stepped w0 w g bl K) :
    CallK Try.prog 16 #[pt g.b 0, v, .agg #[it kd, it a, it n, pv, .int .u64 x]] w K := by
  by_cases h1 : kd = 1
  · exact step_read h hb hbl ha1 ha2 hK h1
  by_cases h2 : kd = 2
  · exact step_write h hb hbl ha1 ha2 hs hn hl hK h2
  by_cases h3 : kd = 3
  · exact step_resize h hb hbl hK h3
  by_cases h4 : kd = 4
  · exact step_word h hb hbl ha1 ha2 hK h4
  by_cases h5 : kd = 5
  · exact step_setword h hb hbl ha1 ha2 hx hK h5
  exact step_else h hb hbl hK h1 h2 h3 h4 h5

theorem whole17 {w0 w : World} {g : Gh} {v : Value} {l : List UInt8} {bl : Option Nat} {K : Value → World → Prop} (h : Own w0 w g l.length (cont l)) (hb : Bs w v l bl)
    (hK : ∀ w', Fr (fun _ => False) w w' → K (.bool true) w') : CallK Try.prog 17 #[pt g.b 0, v] w K := by
  apply Ret.call
  apply F17_ok
  unfold F17
  have hle := h.le
  refine hb.lenE <| h.read (by omega) (by omega) ?_
  intro w1 h1 f1
  have e0 : fitsE l.length 0 l.length = 0 := fits_true (Nat.le_refl _)
  have e1 : fitsE l.length 0 ((l.length : Int) + 1) = 9 := by unfold fitsE; rw [if_pos (by omega)]
  rw [e0, if_pos rfl]
  have ez : ((0 : Int).toNat) = 0 := rfl
  rw [ez, Int.toNat_natCast, seg_cont_all]
  refine rExt0 <| rExt1 <| hb.lenE <| rAdd (by omega) (by omega) <| h1.read (by omega) (by omega) ?_
  intro w2 h2 f2
  rw [e1]
  refine rExt0 <| rExt1 <| rEq <| rIfT <| (hb.more (f1.more f2)).toStr <| rSEq ?_
  rw [beq_refl']
  refine rBool <| rIfT <| rEq <| rBool <| rIfT <| h2.lenC <| hb.lenE <| rEq ?_
  rw [ieq_refl (l.length : Int)]
  refine rBool <| rIfT <| h2.pages <| hb.lenE <| rAdd (by omega) (by omega) ?_
  have ea : (l.length : Int) + 63 = ((l.length + 63 : Nat) : Int) := by omega
  rw [ea]
  refine quo_nat (by omega) <| rEq ?_
  rw [ieq_refl (((l.length + 63) / 64 : Nat) : Int)]
  exact hK w2 (f1.more f2)

end Go.Proofs.Ytdaopbkggmlopaa
