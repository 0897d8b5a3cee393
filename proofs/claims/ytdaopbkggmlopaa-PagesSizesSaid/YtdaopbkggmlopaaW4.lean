/-
  PagesSizes returns true for every input, and changes no argument. (No condition.)
-/
import Derived.Test.YtdaopbkggmlopaaP21
import Derived.Test.YtdaopbkggmlopaaW3
import Derived.Carry
namespace Go.Proofs.Ytdaopbkggmlopaa
open Go.ChangeMaps Go Go.V Go.ChangeShapes Go.WideShapes Go.ChangeAt Go.RowKit
set_option linter.unusedVariables false

theorem ints_of_cells {w : World} {a : Addr} {cap : Nat} {xs : List Int} (h : ∀ (i : Nat) x, xs[i]? = some x → w.cell? (a.add i) = some (.int .i64 x)) : Ints w (.slice (some a) xs.length cap) xs := by
  refine ⟨⟨_, _, rfl⟩, fun W f i x hi K hK => ?_⟩
  have hlt := (List.getElem?_eq_some_iff.1 hi).1
  refine ⟨by omega, by omega, ?_⟩
  show ld1 W (a.add (((i : Nat) : Int).toNat * 1)) K
  rw [Int.toNat_natCast, Nat.mul_one]
  have hc := h i x hi
  have hb : (a.add i).block < w.heap.size := by
    unfold World.cell? at hc
    split at hc
    · rename_i hq; exact lt_of_blk hq
    · cases hc
  have : W.cell? (a.add i) = some (.int .i64 x) := by rw [World.cell?_of_block (w := w) (f.same _ hb id)]; exact hc
  unfold ld1
  rw [this]
  exact hK

theorem ints_nil {w : World} {c : Nat} : Ints w (.slice none 0 c) [] := ⟨⟨_, _, rfl⟩, fun W f i x hi => by simp at hi⟩

theorem walk4 (s : ByteArray) (v : Value) (xs : List Int) (w : World) (hx : Ints w v xs) :
    Calls Try.prog 4 #[.string s, v] w fun e w' => e = .returned (.bool true) ∧ Below w.heap.size w w' := by
  have h := law4 (w := w) (s := s.data.toList) (v := v) (xs := xs) (K := fun v w' => v = .bool true ∧ Below w.heap.size w w') hx (fun w' f => ⟨rfl, below_of_fr f⟩)
  exact (callsIn_wide.1 h.2).mono fun e w' ⟨v, he, hv, hb⟩ => ⟨by rw [he, hv], hb⟩

theorem laidOut4 : laidOutB Try.prog = true := by kernel_rfl
theorem cells3' : Try.prog.cellsOf 3 = 1 := by kernel_rfl

set_option maxRecDepth 100000 in
theorem lifted4 (os : Os) (started : os.Started) (H : Type) (enc : TypeId × Value → H) :
    ReturnsInHanded {} Try.checked os 4 .any (Rows.pagesSizesSpec.pre6 enc Try.prog Try.f4 Rows.pagesSizesRow.domain false) (Rows.pagesSizesSpec.post enc Try.prog Try.f4 false true false false) := by
  refine returnsInHanded_of_change (C := Try.checked) own3 started (by kernel_rfl) Try.func4
    (ChangeSpec.witness6 (enc := enc) (C := Try.checked) false ⟨#[], #[.string ⟨#[]⟩, .slice none 0 0], []⟩ 8 (by kernel_rfl) (by kernel_rfl) (by kernel_rfl) (by kernel_rfl)) ?_
  intro W base args ds gs before hval0 hW hcnd _
  have hval : ∀ (j : Nat) t v, Try.f4.params[j]? = some t → args[j]? = some v → Value.okWide Try.prog W .any base t v := hval0
  have hW' := hW
  obtain ⟨p, q, hA0, hV, rfl, hfz, hnd⟩ := hW
  have hA : DataW.TrodAll enc Try.prog W 0 (fun _ => true) true Try.f4.params.toList args.toList ds p := hA0
  rw [Try.params4] at hA hval
  obtain ⟨v0, vs0, d0, ds0, p0, q0, hargs, rfl, rfl, h0, r0⟩ := trodAll_cons hA
  obtain ⟨v1, vs1, d1, ds1, p1, q1, rfl, rfl, rfl, h1, r1⟩ := trodAll_cons r0
  obtain ⟨rfl, rfl, rfl⟩ := trodAll_nil r1
  obtain rfl : args = #[v0, v1] := by cases args; simp_all
  obtain ⟨rfl, rfl⟩ := trodVars_none hV
  obtain ⟨s0, rfl, rfl, rfl, w0⟩ := open_string Try.underlying9 (hval 0 9 v0 rfl rfl) h0
  obtain ⟨a1, len, cap, rfl⟩ := okWide_slice Try.underlying32 (hval 1 32 v1 rfl rfl)
  have h1k := h1
  obtain ⟨fuel, hf⟩ := h1
  clear hA0 hval0
  simp only [List.append_nil, List.nil_append] at hW'
  have hlt : ∀ x ∈ p1, x.block < W.heap.size := fun x hx => by simpa using hW'.lt x (by simpa using hx)
  have hargs1 : ∀ (W' : World), Below W.heap.size W W' → DataW.Trod enc Try.prog W' 0 (fun b => decide (b < W.heap.size)) true 32 (.slice a1 len cap) d1 p1 :=
    fun W' hn => Below.trod laidOut4 (by kernel_rfl) (of_decide_eq_true (by kernel_rfl)) h1k hn hlt
  have hI : ∃ xs, Ints W (.slice a1 len cap) xs := by
    rcases open_ints Try.underlying32 Try.underlying3 cells3' hf with ⟨hcs, hx⟩ | ⟨a, len', cap', zs, hcs, _, hl, hm, hz, hx, hcell, hwz⟩
    · simp [Value.cells] at hcs
      obtain ⟨rfl, rfl, rfl⟩ := hcs
      exact ⟨[], ints_nil⟩
    · simp [Value.cells] at hcs
      obtain ⟨rfl, rfl, rfl⟩ := hcs
      simp only [if_true] at hz
      have hlen : (zs.take len).length = len := by simp; omega
      have := ints_of_cells (w := W) (a := a) (cap := cap) (xs := zs.take len) (fun i x hi => by
        have hil := (List.getElem?_eq_some_iff.1 hi).1
        rw [hlen] at hil
        rw [List.getElem?_take_of_lt hil] at hi
        rw [hcell i (by omega)]
        simp [hi])
      rw [hlen] at this
      exact ⟨_, this⟩
  obtain ⟨xs, hI⟩ := hI
  refine (walk4 s0 (.slice a1 len cap) xs W hI).mono fun e W' ⟨he, hg⟩ => ?_
  subst he
  exact ⟨_, rfl, post_law (pa := [] ++ (p1 ++ [])) (pv := []) hW' (fun _ _ _ => (trodAll_cons_mk (shut_bool Try.underlying4 _) trodAll_mk0))
    (trodAll_cons_mk (shut_string Try.underlying9 w0) (trodAll_cons_mk (hargs1 _ hg) trodAll_mk0)) rfl hg⟩

theorem over4 : Rows.pagesSizesRow.holds Try.pinned (OpenSpec.ofChange Rows.pagesSizesSpec) :=
  OpenClaim.holds_of_wide 4 Try.f4 rfl rfl rfl rfl rfl rfl rfl ⟨rfl, rfl, rfl, rfl, rfl⟩ rfl rfl rfl rfl rfl (by kernel_rfl) Try.func4 (by kernel_rfl)
    (of_decide_eq_true (by kernel_rfl)) (by unfold Func.isWrapper; first | (rw [if_pos (by decide +kernel)]; kernel_rfl) | (rw [if_neg (by decide +kernel)]; exact ⟨rfl, rfl⟩))
    (fun os started H enc _ => lifted4 os started H enc)

theorem pagesSizes_holds : Rows.PagesSizesSaid := over4
end Go.Proofs.Ytdaopbkggmlopaa
