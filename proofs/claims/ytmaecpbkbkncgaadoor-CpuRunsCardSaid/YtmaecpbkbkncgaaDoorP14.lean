/-
  Pages, part 14: what the laws lean on; lives. Own work.
-/
import Derived.Test.YtmaecpbkbkncgaaDoorP13
set_option linter.unusedVariables false
set_option linter.unusedSimpArgs false
set_option maxRecDepth 100000
namespace Go.Proofs.YtmaecpbkbkncgaaDoor
open Go Go.V Go.RowKit

/-- a row of n bytes c that is all one's own, from world w0 on -/
structure Own (w0 w : World) (g : Gh) (n : Nat) (c : Nat → UInt8) : Prop where
  fr : Fr (fun _ => False) w0 w
  mine : ∀ k, g.sees k → w0.heap.size ≤ k
  by' : By w g n c
  len : g.ps.length = (n + 63) / 64
  le : n ≤ 4096
  zero : ∀ i, n ≤ i → c i = 0

theorem Own.step {w0 w w' : World} {g g' : Gh} {n m : Nat} {c d : Nat → UInt8} (h : Own w0 w g n c) (evo : Evo w g w' g') (hb : By w' g' m d) (hl : g'.ps.length = (m + 63) / 64) (hm : m ≤ 4096) (hz : ∀ i, m ≤ i → d i = 0) : Own w0 w' g' m d := by
  have hs := h.fr.size
  refine ⟨h.fr.trans evo.fr (fun x hx hf => by have := h.mine x (.inl hf); omega), ?_, hb, hl, hm, hz⟩
  rintro k (hk | hk)
  · rcases evo.foot k hk with e | e
    · exact h.mine k (.inl e)
    · omega
  · rcases evo.sees k hk with e | e
    · exact h.mine k e
    · omega

theorem Own.more {w0 w w' : World} {g : Gh} {n : Nat} {c : Nat → UInt8} (h : Own w0 w g n c) (f : Fr (fun _ => False) w w') : Own w0 w' g n c :=
  ⟨h.fr.more f, h.mine, h.by'.fr f (fun _ _ => id), h.len, h.le, h.zero⟩

theorem wrc_zero {c : Nat → UInt8} {a n : Nat} {s : List UInt8} (hz : ∀ i, n ≤ i → c i = 0) (hs : a + s.length ≤ n) : ∀ i, n ≤ i → wrc c a s i = 0 := by
  intro i hi
  unfold wrc
  split
  · rw [List.getElem?_eq_none (by omega)]; exact hz i hi
  · exact hz i hi

theorem fitsE_zero {n : Nat} {a : Int} {k : Nat} (h : fitsE n a k = 0) : 0 ≤ a ∧ a.toNat + k ≤ n := by
  unfold fitsE at h
  split at h
  · cases h
  · omega

theorem Own.write {w0 w : World} {g : Gh} {n : Nat} {c : Nat → UInt8} {a' : Int} {parts : Value} {s : List UInt8} {K : Value → World → Prop} (h : Own w0 w g n c) (ha1 : -9223372036854775808 ≤ a') (ha2 : a' < 9223372036854775808) (hp : Parts w parts s)
    (hK : ∀ w' g', g'.b = g.b → Own w0 w' g' n (if fitsE n a' s.length = 0 then wrc c a'.toNat s else c) → K (it (fitsE n a' s.length)) w') : CallK Tryd.prog 12 #[pt g.b 0, it a', parts] w K := by
  refine (wr_spec h.by' h.le (by have := h.len; omega) ha1 ha2 hp ?_).call
  intro w' g' evo hl hb
  refine hK w' g' evo.b (h.step evo hb (hl.trans h.len) h.le ?_)
  split
  · rename_i he
    exact wrc_zero h.zero (fitsE_zero he).2
  · exact h.zero

theorem Own.read {w0 w : World} {g : Gh} {n : Nat} {c : Nat → UInt8} {a' k' : Int} {K : Value → World → Prop} (h : Own w0 w g n c) (ha1 : -9223372036854775808 ≤ a') (ha2 : a' < 9223372036854775808)
    (hK : ∀ w', Own w0 w' g n c → Fr (fun _ => False) w w' → K (.tuple #[str (if fitsE n a' k' = 0 then seg c a'.toNat k'.toNat else []), it (fitsE n a' k')]) w') : CallK Tryd.prog 15 #[pt g.b 0, it a', it k'] w K :=
  (read_spec h.by' h.le (by have := h.len; omega) ha1 ha2 fun w' f => hK w' (h.more f) f).call

theorem Own.resize {w0 w : World} {g : Gh} {n : Nat} {c : Nat → UInt8} {n' : Int} {K : Value → World → Prop} (h : Own w0 w g n c)
    (hbad : n' < 0 ∨ 4096 < n' → ∀ w', Own w0 w' g n c → K (it 1) w')
    (hok : ∀ m : Nat, n' = m → m ≤ 4096 → ∀ w' g', g'.b = g.b → Own w0 w' g' m (fun i => if i < m then c i else 0) → K (it 0) w') : CallK Tryd.prog 22 #[pt g.b 0, it n'] w K := by
  refine (resize_spec h.by' h.le h.len h.zero (fun hb w' f => hbad hb w' (h.more f)) ?_).call
  intro m hm hle w' g' evo hb hl
  exact hok m hm hle w' g' evo.b (h.step evo hb hl hle (fun i hi => if_neg (by omega)))

theorem Own.new {w0 w : World} {n' : Int} {K : Value → World → Prop} (f0 : Fr (fun _ => False) w0 w) (hbad : n' < 0 ∨ 4096 < n' → ∀ w', Fr (fun _ => False) w0 w' → K (.tuple #[.pointer none, it 1]) w')
    (hok : ∀ m : Nat, n' = m → m ≤ 4096 → ∀ w' g, Own w0 w' g m (fun _ => 0) → K (.tuple #[pt g.b 0, it 0]) w') : CallK Tryd.prog 11 #[it n'] w K := by
  refine (new_spec (fun hb w' f => hbad hb w' (f0.more f)) ?_).call
  intro m hm hle w' g f hmine hb hl
  exact hok m hm hle w' g ⟨f0.more f, fun k hk => Nat.le_trans f0.size (hmine k hk), hb, hl, hle, fun _ _ => rfl⟩

theorem Own.pages {w0 w : World} {g : Gh} {n : Nat} {c : Nat → UInt8} {K : Value → World → Prop} (h : Own w0 w g n c) (hK : K (it ((n + 63) / 64 : Nat)) w) : CallK Tryd.prog 38 #[pt g.b 0] w K := by
  obtain ⟨lv, ov, hd, _, _⟩ := h.by'.hd
  exact (pages_spec hd h.le hK).call

theorem Own.lenC {w0 w : World} {g : Gh} {n : Nat} {c : Nat → UInt8} {K : Value → World → Prop} (h : Own w0 w g n c) (hK : K (it n) w) : CallK Tryd.prog 33 #[pt g.b 0] w K := by
  obtain ⟨lv, ov, hd, _, _⟩ := h.by'.hd
  exact (len_spec hd hK).call

theorem parts_row {w : World} {bk o c : Nat} {xs : List (List UInt8)} {cs : List Value} (h : Cs w bk cs) (hx : ∀ (j : Nat) (x : List UInt8), xs[j]? = some x → cs[o + j]? = some (str x))
    (hc : xs.length ≤ c) (hN : xs.length ≤ 140737488355328) (hl : xs.flatten.length ≤ 140737488355328) : Parts w (.slice (some ⟨bk, o, none⟩) xs.length c) xs.flatten :=
  fun K w1 f hK => join_spec (h.fr f id) hx hc hN hl hK

theorem t41 : Tryd.prog.underlying 63 = some (.slice 9) := by kernel_rfl
theorem i9 : ∃ i, Tryd.prog.info? 9 = some i ∧ i.size = 1 := by
  have h : (Tryd.prog.info? 9).map (fun i => i.size) = some 1 := by kernel_rfl
  exact Option.map_eq_some_iff.1 h

theorem bs41_1 {s : List UInt8} {w : World} {K : Value → World → Prop} (hK : ∀ w', Cs w' w.heap.size [str s] → Fr (fun _ => False) w w' → w'.heap.size = w.heap.size + 1 → K (sv w.heap.size 1 1) w') : vBuildSlice Tryd.prog 63 1 [(0, str s)] w K := by
  obtain ⟨i, hi1, hi2⟩ := i9
  unfold vBuildSlice
  simp only [t41, zc9, hi1, hi2]
  refine ⟨by decide, by decide, ?_⟩
  simp only [fillV, slPlace, Nat.blt, Nat.ble, cond_true]
  refine ⟨rfl, ?_⟩
  exact hK _ (Cs.new _ [str s] 9) ((Fr.refl _ w).alloc _) (by simp)

theorem bs41_2 {s t : List UInt8} {w : World} {K : Value → World → Prop} (hK : ∀ w', Cs w' w.heap.size [str s, str t] → Fr (fun _ => False) w w' → w'.heap.size = w.heap.size + 1 → K (sv w.heap.size 2 2) w') : vBuildSlice Tryd.prog 63 2 [(0, str s), (1, str t)] w K := by
  obtain ⟨i, hi1, hi2⟩ := i9
  unfold vBuildSlice
  simp only [t41, zc9, hi1, hi2]
  refine ⟨by decide, by decide, ?_⟩
  simp only [fillV, slPlace, Nat.blt, Nat.ble, cond_true]
  refine ⟨rfl, rfl, ?_⟩
  exact hK _ (Cs.new _ [str s, str t] 9) ((Fr.refl _ w).alloc _) (by simp)

theorem parts_one {w : World} {l : Nat} {s : List UInt8} (h : Cs w l [str s]) : Parts w (sv l 1 1) s := by
  intro K w1 f hK
  have := Any.strings_Join_one Tryd.lays156 Tryd.Builder_Extra_156 l 0 1 ⟨s.toArray⟩ ⟨#[]⟩ w1 (Cs.cell (h.fr f id) rfl)
  exact ret_of_calls Tryd.call23 (this.mono fun e w' ⟨h1, h2⟩ => ⟨_, h1, h2 ▸ hK w1 (Fr.refl _ _)⟩)

end Go.Proofs.YtmaecpbkbkncgaaDoor
