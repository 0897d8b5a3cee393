/-
  ProcsNone's row: the closed facts. Own work.
-/
import Derived.Test.YtdkklhnleppfcaaGreatVF
import Derived.Test.YtdkklhnleppfcaaGreatRows
import Derived.ProofKit
import Derived.Handed
import Derived.OpenShut
import Derived.Stop.Joined
set_option linter.unusedVariables false
set_option linter.unusedSimpArgs false

namespace Go.Proofs.YtdkklhnleppfcaaGreat
open Go.ChangeMaps Go Go.V Go.ChangeShapes Go.WideShapes Go.ChangeAt Go.RowKit
set_option linter.unusedVariables false
set_option maxRecDepth 100000

theorem own3 : ownKnob Tryz.prog.godebug = none := by kernel_rfl

noncomputable def f88 : Array Field := match Tryz.prog.underlying 88 with
  | some (.struct fs) => fs
  | _ => #[]
theorem u88 : Tryz.prog.underlying 88 = some (.struct f88) := by kernel_rfl
theorem ct88 : Tryz.prog.cellTypes Tryz.prog.depth 88 = some [3, 3, 3, 3, 3, 9] := by kernel_rfl
theorem n88 : Tryz.prog.cellsOf 88 = 6 := by kernel_rfl

theorem cell_int {W : World} {b : Nat} {v : Value} (h : Cell.okWide Tryz.prog W .any b 3 v) : ∃ n, v = .int .i64 n ∧ -9223372036854775808 ≤ n ∧ n < 9223372036854775808 := by
  simp only [Cell.okWide, Tryz.underlying3] at h
  cases v <;> simp_all [Cell.ok, Tryz.underlying3]
  obtain ⟨rfl, h1, h2⟩ := h
  have h1 : (-9223372036854775808 : Int) ≤ _ := h1
  have h2 : _ ≤ (9223372036854775807 : Int) := h2
  exact ⟨h1, by omega⟩
theorem cell_str {W : World} {b : Nat} {v : Value} (h : Cell.okWide Tryz.prog W .any b 9 v) : ∃ s, v = .string s := by
  simp only [Cell.okWide, Tryz.underlying9] at h
  cases v <;> simp_all [Cell.ok, Tryz.underlying9]

theorem open_op {W : World} {b : Nat} {v : Value} (hv : Value.okWide Tryz.prog W .any b 88 v) : ∃ (op u p n f : Int) (s : ByteArray), -9223372036854775808 ≤ p ∧ p < 9223372036854775808 ∧
    v = .agg ⟨[.int .i64 op, .int .i64 u, .int .i64 p, .int .i64 n, .int .i64 f, .string s]⟩ := by
  simp only [Value.okWide, u88] at hv
  obtain ⟨⟨cs⟩, rfl, hsz, ts, hts, _, hall⟩ := hv
  rw [ct88] at hts
  cases hts
  rw [n88] at hsz
  match cs, hsz with
  | [v0, v1, v2, v3, v4, v5], _ =>
    have g (i : Nat) (u : Nat) (v : Value) (h1 : ([v0, v1, v2, v3, v4, v5] : List Value)[i]? = some v) (h2 : ([3, 3, 3, 3, 3, 9] : List Nat)[i % 6]? = some u) : Cell.okWide Tryz.prog W .any b u v := by
      obtain ⟨u', hu, hc⟩ := hall i v (by simpa using h1)
      have : some u' = some u := hu.symm.trans h2
      cases this
      exact hc
    obtain ⟨op, rfl, _⟩ := cell_int (g 0 3 v0 rfl rfl)
    obtain ⟨u, rfl, _⟩ := cell_int (g 1 3 v1 rfl rfl)
    obtain ⟨p, rfl, hp⟩ := cell_int (g 2 3 v2 rfl rfl)
    obtain ⟨n, rfl, _⟩ := cell_int (g 3 3 v3 rfl rfl)
    obtain ⟨f, rfl, _⟩ := cell_int (g 4 3 v4 rfl rfl)
    obtain ⟨s, rfl⟩ := cell_str (g 5 9 v5 rfl rfl)
    exact ⟨op, u, p, n, f, s, hp.1, hp.2, rfl⟩

theorem spec9 (H : Type) (ds : List (DataW H)) (h : ds.length = Tryz.f9.params.toList.length) : Rows.procsNoneSpec.fn H ds = { results := [.lit (.bool true)], args := ds } := by
  rw [Tryz.params9] at h
  match ds, h with
  | [d0], _ => rfl

noncomputable def boolT9 : Nat := match Tryz.f9.resultTypes.toList with
  | [t] => t
  | _ => 0
theorem law9B : lawB Tryz.prog Tryz.f9 boolT9 = true := by kernel_rfl

theorem witness9 {H : Type} (enc : TypeId × Value → H) (os : Os) : ∃ (w : World) (tape : Tape) (i : Input), w.os = os ∧ (w.forCall tape i).Shaped Tryz.checked.prog ∧ i.vars = [] ∧ Input.okWide Tryz.checked.prog (w.forCall tape i) .any w.heap.size 9 i ∧
      Rows.procsNoneSpec.pre6 enc Tryz.checked.prog Tryz.f9 Rows.procsNoneRow.domain false (w.forCall tape i).memory i.args ∧ ({} : Assume).holds Tryz.checked.prog (lone (Frame.enter Tryz.checked.prog 9 i.args .normal) [] (w.forCall tape i)) :=
  ChangeSpec.witness6 (enc := enc) (C := Tryz.checked) false ⟨#[], #[.agg #[.int .i64 0, .int .i64 0, .int .i64 0, .int .i64 0, .int .i64 0, .string ⟨#[]⟩]], []⟩ 8 (by kernel_rfl) (by kernel_rfl) (by kernel_rfl) (by kernel_rfl)

theorem j_place : (Rows.procsNoneRow.inPlace == Tryz.prog.inPlace 9) = true := by kernel_rfl
theorem j_unf : (Rows.procsNoneRow.unfollowed == Tryz.prog.unfollowed 9) = true := by kernel_rfl
theorem j_rec : (Rows.procsNoneRow.recurses == Tryz.prog.recurses 9) = true := by kernel_rfl
theorem j_named : (Rows.procsNoneRow.named == Tryz.prog.varsNamed 9) = true := by kernel_rfl
theorem j_enter : Tryz.prog.mayEnter = true := by kernel_rfl
theorem j_lift : (Rows.procsNoneRow.lifted == Tryz.prog.liftsFinal) = true := by kernel_rfl
theorem j_make : (Tryz.prog.make == some Rows.procsNoneRow.make) = true := by kernel_rfl
theorem j_heard : Tryz.prog.stopsHeard = true := by kernel_rfl
theorem j_laid : laidOutB Tryz.prog = true := by kernel_rfl
theorem j_maps : mapsRowed Tryz.prog = true := by kernel_rfl
theorem closed9 : joinedFacts Tryz.prog 9 Tryz.f9 Rows.procsNoneSpec Rows.procsNoneRow = true := by
  unfold joinedFacts
  rw [j_place, j_unf, j_rec, j_named, j_enter, j_lift, j_make, j_heard, j_laid, j_maps]
  kernel_rfl
theorem fn9 : Tryz.prog.funcNamed Rows.procsNoneRow.func = some 9 := by kernel_rfl
theorem inst9 : Tryz.f9.isInstance Tryz.prog Rows.procsNoneRow.origin Rows.procsNoneRow.targs := of_decide_eq_true (by kernel_rfl)
theorem wrap9 : Tryz.f9.isWrapper Tryz.prog Rows.procsNoneRow.wrapper Rows.procsNoneRow.mainSum := by unfold Func.isWrapper; first | (rw [if_pos (by decide +kernel)]; kernel_rfl) | (rw [if_neg (by decide +kernel)]; exact ⟨rfl, rfl⟩)

end Go.Proofs.YtdkklhnleppfcaaGreat
