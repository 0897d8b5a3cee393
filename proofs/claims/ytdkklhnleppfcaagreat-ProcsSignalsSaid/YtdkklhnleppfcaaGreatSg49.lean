import Derived.Test.YtdkklhnleppfcaaGreatSg48
set_option linter.unusedVariables false
set_option linter.unusedSimpArgs false

set_option maxRecDepth 100000
set_option linter.unusedVariables false
namespace Go.Proofs.YtdkklhnleppfcaaGreat
open Go Go.V Go.X
noncomputable def lw2_hk : Hook := orH (memo [lr4]) hk0
theorem lw2_hk_ok : HkOK Tryz.prog 0 lw2_hk := orH_ok (memo_ok (fun M hM => by
  simp only [List.mem_cons, List.not_mem_nil, or_false] at hM
  subst hM
  exact lr4_ok)) hk0_ok
noncomputable def lw2_F : Funs := funs Tryz.prog 0 (goodL gl) xtabs lw2_hk 100000 60
theorem lw2_F_ok : FsOK Tryz.prog 0 lw2_F := funs_ok told lw2_hk_ok 60
theorem lw2_ok : MemOK Tryz.prog 0 lw2 := mem_ok lw2_F_ok (by kernel_rfl)
end Go.Proofs.YtdkklhnleppfcaaGreat
