import Derived.Test.YtdkklhnleppfcaaGreatSg41
set_option linter.unusedVariables false
set_option linter.unusedSimpArgs false

set_option maxRecDepth 100000
set_option linter.unusedVariables false
namespace Go.Proofs.YtdkklhnleppfcaaGreat
open Go Go.V Go.X
noncomputable def lw0_hk : Hook := orH (memo [lr1]) hk0
theorem lw0_hk_ok : HkOK Tryz.prog 0 lw0_hk := orH_ok (memo_ok (fun M hM => by
  simp only [List.mem_cons, List.not_mem_nil, or_false] at hM
  subst hM
  exact lr1_ok)) hk0_ok
noncomputable def lw0_F : Funs := funs Tryz.prog 0 (goodL gl) xtabs lw0_hk 100000 60
theorem lw0_F_ok : FsOK Tryz.prog 0 lw0_F := funs_ok told lw0_hk_ok 60
theorem lw0_ok : MemOK Tryz.prog 0 lw0 := mem_ok lw0_F_ok (by kernel_rfl)
end Go.Proofs.YtdkklhnleppfcaaGreat
