/-
  Pages, part 25: eight bytes; joined parts; what a step does with the pages. Own work.
-/
import Derived.Test.YtmaecpbkbkncgaaDoorP24
set_option linter.unusedVariables false
set_option linter.unusedSimpArgs false
set_option maxRecDepth 100000
namespace Go.Proofs.YtmaecpbkbkncgaaDoor
open Go Go.V Go.RowKit

theorem eight_take {x i : Nat} (h : i < 8) : (eight x).take (i + 1) = (eight x).take i ++ [UInt8.ofNat (x / 256 ^ i)] := by
  rw [List.take_add_one]
  congr 1
  simp [eight, h]

theorem bs38_1 {w : World} {b : UInt8} {K : Value → World → Prop} (hK : ∀ w' v, Bs w' v [b] (some w.heap.size) → Fr (fun _ => False) w w' → w'.heap.size = w.heap.size + 1 → K v w') : vBuildSlice Tryd.prog 42 1 [(0, .int .u8 b.toNat)] w K := by
  obtain ⟨i, hi1, hi2, hi3⟩ := i5
  unfold vBuildSlice
  simp only [t38, z5, hi1, hi2]
  refine ⟨by decide, by decide, ?_⟩
  simp only [fillV, slPlace, Nat.blt, Nat.ble, cond_true]
  refine ⟨rfl, ?_⟩
  exact hK _ _ ⟨[], rfl, Cs.new _ [.int .u8 b.toNat] 5⟩ ((Fr.refl _ w).alloc _) (by simp)

/-- ref.Eight -/
theorem eight35 {w : World} {x : Nat} {K : Value → World → Prop} (hx : x < 18446744073709551616) (hK : ∀ w', Fr (fun _ => False) w w' → K (str (eight x)) w') : CallK Tryd.prog 57 #[.int .u64 x] w K := by
  apply Ret.call
  apply F57_ok
  unfold F57
  refine bs38_0 ?_
  intro w1 c1 f1 s1
  have hs0 : Bs w1 (sv w.heap.size 0 0) [] (some w.heap.size) := ⟨[], rfl, c1⟩
  refine ⟨fun vs ds W => ds = [] ∧ ∃ (i : Nat) (v : Value) (q : Nat), i ≤ 8 ∧ vs = [.int .u64 ((x / 256 ^ i : Nat) : Int), v, it i] ∧ Bs W v ((eight x).take i) (some q) ∧ w.heap.size ≤ q ∧ Fr (fun _ => False) w W,
    fun vs _ _ => match vs with | [_, _, .int _ i] => 8 - i.toNat | _ => 0, ⟨rfl, 0, sv w.heap.size 0 0, w.heap.size, by omega, by simp, by simpa using hs0, Nat.le_refl _, f1⟩, ?_⟩
  rintro ρ ds W ⟨rfl, i, v, q, hi, hρ, hB, hq, fr⟩
  have hρ0 := hρ
  simp only [List.map_cons, List.map_nil, List.cons.injEq, and_true] at hρ
  obtain ⟨e0, e3, e4⟩ := hρ
  unfold F57L1
  rw [hρ0, e0, e3, e4]
  refine rLt <| rIf (fun hlt => ?_) (fun hge => ?_)
  · have hlt : i < 8 := by
      have : (i : Int) < 8 := by simpa using hlt
      omega
    have hd : x / 256 ^ i < 18446744073709551616 := Nat.lt_of_le_of_lt (Nat.div_le_self _ _) hx
    refine ⟨rfl, by decide, rCv ?_⟩
    have em : Int.tmod ((x / 256 ^ i : Nat) : Int) 256 = ((x / 256 ^ i % 256 : Nat) : Int) := by rw [Int.tmod_eq_emod_of_nonneg (Int.natCast_nonneg _)]; simp
    rw [em, wrap_u8]
    have eb : (UInt8.ofNat (x / 256 ^ i % 256)) = UInt8.ofNat (x / 256 ^ i) := by
      apply UInt8.toNat.inj; simp
    rw [eb]
    refine bs38_1 ?_
    intro w2 v2 h2 f2 s2
    refine Bs.app k38 (hB.more f2) h2.src (by simp; omega) ?_
    intro w3 v3 bl3 h3 f3 hb3 hne
    obtain ⟨q3, rfl⟩ := Option.ne_none_iff_exists'.1 (hne (by simp))
    refine ⟨rfl, by decide, ?_⟩
    have eq : Int.tdiv ((x / 256 ^ i : Nat) : Int) 256 = ((x / 256 ^ (i + 1) : Nat) : Int) := by
      rw [Int.tdiv_eq_ediv_of_nonneg (Int.natCast_nonneg _), Nat.pow_succ, ← Nat.div_div_eq_div_mul]; simp
    have hd2 : x / 256 ^ (i + 1) < 18446744073709551616 := Nat.lt_of_le_of_lt (Nat.div_le_self _ _) hx
    rw [eq, wrap_u64 (Int.natCast_nonneg _) (Int.ofNat_lt.2 hd2)]
    refine rAdd (by omega) (by omega) ?_
    have ei : (i : Int) + 1 = ((i + 1 : Nat) : Int) := by omega
    rw [ei]
    have hs2 := f2.size
    have hsW := fr.size
    refine ⟨⟨rfl, i + 1, v3, q3, by omega, rfl, by rw [eight_take hlt]; exact h3, ?_, (fr.more f2).trans f3 (fun k hk e => by simp at e; omega)⟩, ?_⟩
    · rcases hb3 q3 rfl with e | e
      · simp at e; omega
      · omega
    · show 8 - ((i + 1 : Nat) : Int).toNat < 8 - ((i : Nat) : Int).toNat
      simp; omega
  · have hi : i = 8 := by
      have : ¬ (i : Int) < 8 := by simpa using hge
      omega
    subst hi
    refine hB.toStr ?_
    have : (eight x).take 8 = eight x := by rw [List.take_of_length_le (by rw [eight_len]; omega)]
    rw [this]
    exact hK W fr

/-! ### What is done with pages, told with what it touches -/

theorem Own.writeE {w0 w : World} {g : Gh} {n : Nat} {c : Nat → UInt8} {a' : Int} {parts : Value} {s : List UInt8} {K : Value → World → Prop} (h : Own w0 w g n c) (ha1 : -9223372036854775808 ≤ a') (ha2 : a' < 9223372036854775808) (hp : Parts w parts s)
    (hK : ∀ w' g', Evo w g w' g' → Own w0 w' g' n (if fitsE n a' s.length = 0 then wrc c a'.toNat s else c) → K (it (fitsE n a' s.length)) w') : CallK Tryd.prog 12 #[pt g.b 0, it a', parts] w K := by
  refine (wr_spec h.by' h.le (by have := h.len; omega) ha1 ha2 hp ?_).call
  intro w' g' evo hl hb
  refine hK w' g' evo (h.step evo hb (hl.trans h.len) h.le ?_)
  split
  · rename_i he
    exact wrc_zero h.zero (fitsE_zero he).2
  · exact h.zero

theorem Own.resizeE {w0 w : World} {g : Gh} {n : Nat} {c : Nat → UInt8} {n' : Int} {K : Value → World → Prop} (h : Own w0 w g n c)
    (hbad : n' < 0 ∨ 4096 < n' → ∀ w', Own w0 w' g n c → Fr (fun _ => False) w w' → K (it 1) w')
    (hok : ∀ m : Nat, n' = m → m ≤ 4096 → ∀ w' g', Evo w g w' g' → Own w0 w' g' m (fun i => if i < m then c i else 0) → K (it 0) w') : CallK Tryd.prog 22 #[pt g.b 0, it n'] w K := by
  refine (resize_spec h.by' h.le h.len h.zero (fun hb w' f => hbad hb w' (h.more f) f) ?_).call
  intro m hm hle w' g' evo hb hl
  exact hok m hm hle w' g' evo (h.step evo hb hl hle (fun i hi => if_neg (by omega)))

theorem rSlA0 {n es q o : Nat} {K : Value → Prop} (h : n ≠ 0) (k : K (.slice (some ⟨q, o, none⟩) n n)) : vSlice (.arr n es) (pt q o) none none K := by
  show K (.slice (some (if n = 0 then ⟨q, o, none⟩ else Addr.add ⟨q, o, none⟩ (0 * es))) (n - 0) (n - 0))
  rw [if_neg h, addr_add]
  simpa using k

theorem Evo.fore {w w' w'' : World} {g g' : Gh} (k : Fr (fun _ => False) w w') (h : Evo w' g w'' g') : Evo w g w'' g' := Evo.before k h (fun _ _ => False.elim)

end Go.Proofs.YtmaecpbkbkncgaaDoor
