/-
  PagesUnlike returns true, and changes no argument, for every input of which no more than 1048576 values and letters are told.
-/
import Derived.Test.YtdaopbkggmlopaaP35
import Derived.Test.YtdaopbkggmlopaaW5
namespace Go.Proofs.Ytdaopbkggmlopaa
open Go.ChangeMaps Go Go.V Go.ChangeShapes Go.WideShapes Go.ChangeAt Go.RowKit
set_option linter.unusedVariables false

theorem spec6 (H : Type) (ds : List (DataW H)) (h : ds.length = Try.f6.params.toList.length) : Rows.pagesUnlikeSpec.fn H ds = { results := [.lit (.bool true)], args := ds } := by
  rw [Try.params6] at h
  match ds, h with
  | [d1, d2, d3, d4], _ => rfl

theorem law6B : lawB Try.prog Try.f6 4 = true := by kernel_rfl

theorem ops_len {H : Type} {enc : TypeId × Value → H} {W : World} {v : Value} {fuel : Nat} {y : DataW H × List MemPlace} {os : List OpV} (h : DataW.trod enc Try.prog W 0 (fun _ => true) true fuel 36 [v] = some y) (ho : Ops W v os) : os.length < 9223372036854775808 := by
  obtain ⟨a, c, rfl⟩ := ho.shape
  rcases DataW.trod_slice Try.underlying36 h with ⟨hv, _⟩ | ⟨a, len, cap, elems, rest, n, _, hv, rfl, _, hle, hm, _⟩
  · simp only [List.cons.injEq, Value.slice.injEq, and_true] at hv
    omega
  · simp only [List.cons.injEq, Value.slice.injEq, and_true] at hv
    unfold maxLen at hm
    omega

set_option maxRecDepth 100000 in
theorem lifted6 (os : Os) (started : os.Started) (H : Type) (enc : TypeId × Value → H) (F : Stop.Interp) :
    ReturnsInHanded {} Try.checked os 6 .any ((Rows.OpenSpec.upto Rows.pagesUnlikeSpec).pre6 enc Try.prog Try.f6 Rows.pagesUnlikeUptoRow.domain false) (((Rows.OpenSpec.upto Rows.pagesUnlikeSpec).at F).post enc Try.prog Try.f6 false true false false) := by
  refine returnsInHanded_of_cond (C := Try.checked) (k := Rows.uptoSmall) rfl own3 started (by kernel_rfl) Try.func6
    (OpenSpec.witness (enc := enc) (C := Try.checked) (k := Rows.uptoSmall) (x := ([.lit (.int .i64 0), .lit (.int .i64 0), .nil, .nil], [], [])) rfl false ⟨#[], #[.int .i64 0, .int .i64 0, .slice none 0 0, .slice none 0 0], []⟩ 8 (by kernel_rfl) (by kernel_rfl) (by kernel_rfl) (by kernel_rfl) (by kernel_rfl) (by kernel_rfl)) ?_
  intro W base args ds gs before hval0 hW hcnd hk _
  have hval : ∀ (j : Nat) t v, Try.f6.params[j]? = some t → args[j]? = some v → Value.okWide Try.prog W .any base t v := hval0
  refine true_calls 4 law6B rfl (spec6 H) hW fun ps hA => ?_
  obtain ⟨_, _, _, hV, _⟩ := hW
  obtain ⟨rfl, _⟩ := trodVars_none hV
  rw [Try.params6] at hA hval
  obtain ⟨v0, vs0, d0, ds0, p0, q0, hargs, rfl, rfl, h0, r0⟩ := trodAll_cons hA
  obtain ⟨v1, vs1, d1, ds1, p1, q1, rfl, rfl, rfl, h1, r1⟩ := trodAll_cons r0
  obtain ⟨v2, vs2, d2, ds2, p2, q2, rfl, rfl, rfl, h2, r2⟩ := trodAll_cons r1
  obtain ⟨v3, vs3, d3, ds3, p3, q3, rfl, rfl, rfl, h3, r3⟩ := trodAll_cons r2
  obtain ⟨rfl, rfl, rfl⟩ := trodAll_nil r3
  obtain rfl : args = #[v0, v1, v2, v3] := by cases args; simp_all
  obtain ⟨a0, rfl, rfl, rfl, w0⟩ := open_int Try.underlying3 (hval 0 3 v0 rfl rfl) h0
  obtain ⟨a1, rfl, rfl, rfl, w1⟩ := open_int Try.underlying3 (hval 1 3 v1 rfl rfl) h1
  obtain ⟨a2, len2, cap2, rfl⟩ := okWide_slice Try.underlying36 (hval 2 36 v2 rfl rfl)
  obtain ⟨a3, len3, cap3, rfl⟩ := okWide_slice Try.underlying36 (hval 3 36 v3 rfl rfl)
  obtain ⟨fuel2, hf2⟩ := h2
  obtain ⟨fuel3, hf3⟩ := h3
  have hb : Rows.uptoBulk d2 ≤ 1048576 ∧ Rows.uptoBulk d3 ≤ 1048576 := by
    have : Rows.uptoBulkAll ([.lit (.int .i64 a0), .lit (.int .i64 a1), d2, d3] ++ []) ≤ 1048576 := of_decide_eq_true hk
    simp only [List.append_nil, Rows.uptoBulkAll] at this
    omega
  obtain ⟨os2, ho2⟩ := open_ops (v := .slice a2 len2 cap2) hf2 hb.1
  obtain ⟨os3, ho3⟩ := open_ops (v := .slice a3 len3 cap3) hf3 hb.2
  exact law6 ho2 ho3 (ops_len (v := .slice a2 len2 cap2) hf2 ho2) (ops_len (v := .slice a3 len3 cap3) hf3 ho3) fun w' f => ⟨rfl, f⟩

theorem over6 : Rows.pagesUnlikeUptoRow.holds Try.pinned (Rows.OpenSpec.upto Rows.pagesUnlikeSpec) :=
  OpenClaim.holds_of_cond 6 Try.f6 rfl rfl rfl rfl rfl rfl rfl ⟨rfl, rfl, rfl, rfl, rfl⟩ rfl rfl rfl rfl rfl (by kernel_rfl) Try.func6 (by kernel_rfl)
    (of_decide_eq_true (by kernel_rfl)) (by unfold Func.isWrapper; first | (rw [if_pos (by decide +kernel)]; kernel_rfl) | (rw [if_neg (by decide +kernel)]; exact ⟨rfl, rfl⟩))
    (fun os started H enc _ F => lifted6 os started H enc F)

theorem pagesUnlike_holds : Rows.PagesUnlikeUptoSaid := over6
end Go.Proofs.Ytdaopbkggmlopaa
