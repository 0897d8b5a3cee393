/-
  ProcsNone returns true for every input, and changes no argument. (No condition.) Own work.
-/
import Derived.Test.YtdkklhnleppfcaaGreatN3
import Derived.Test.YtdkklhnleppfcaaGreatRJ
import Derived.Test.YtdkklhnleppfcaaGreatRows
import Derived.ProofKit
import Derived.Handed
import Derived.OpenShut
import Derived.Stop.Joined
set_option linter.unusedVariables false
set_option linter.unusedSimpArgs false

namespace Go.Proofs.YtdkklhnleppfcaaGreat
open Go.ChangeMaps Go Go.V Go.X Go.ChangeShapes Go.WideShapes Go.ChangeAt Go.RowKit
set_option linter.unusedVariables false
set_option maxRecDepth 100000

theorem lifted9 (os : Os) (started : os.Started) (H : Type) (enc : TypeId × Value → H) :
    ReturnsInHanded {} Tryz.checked os 9 .any (Rows.procsNoneSpec.pre6 enc Tryz.prog Tryz.f9 Rows.procsNoneRow.domain false) (Rows.procsNoneSpec.post enc Tryz.prog Tryz.f9 false true false false) := by
  refine returnsInHanded_of_change (C := Tryz.checked) own3 started (by kernel_rfl) Tryz.func9
    (witness9 enc os) ?_
  intro W base args ds gs before hval0 hW _ _
  have hval : ∀ (j : Nat) t v, Tryz.f9.params[j]? = some t → args[j]? = some v → Value.okWide Tryz.prog W .any base t v := hval0
  refine true_calls boolT9 law9B rfl (spec9 H) hW fun ps hA => ?_
  rw [Tryz.params9] at hA hval
  obtain ⟨v0, vs0, d0, ds0, p0, q0, hargs, rfl, rfl, h0, r0⟩ := trodAll_cons hA
  obtain ⟨rfl, rfl, rfl⟩ := trodAll_nil r0
  obtain rfl : args = #[v0] := by cases args; simp_all
  obtain ⟨op, u, p, n, f, s, hp0, hp1, rfl⟩ := open_op (hval 0 88 v0 rfl rfl)
  exact law_spec op u p n f hp0 hp1 s fun w' f => ⟨rfl, f⟩

theorem procsNone_holds : Rows.ProcsNoneSaid :=
  OpenClaim.holds_of_wide 9 Tryz.f9 rfl rfl rfl rfl rfl rfl rfl ⟨rfl, rfl, rfl, rfl, rfl⟩ rfl rfl rfl rfl rfl fn9 Tryz.func9 closed9 inst9 wrap9
    (fun os started H enc _ => lifted9 os started H enc)
end Go.Proofs.YtdkklhnleppfcaaGreat
