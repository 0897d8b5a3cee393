import Derived.Test.YtdkklhnleppfcaaGreatSg46
set_option linter.unusedVariables false
set_option linter.unusedSimpArgs false

set_option maxRecDepth 100000
set_option linter.unusedVariables false
namespace Go.Proofs.YtdkklhnleppfcaaGreat
open Go Go.V Go.X
noncomputable def lw1_hk : Hook := orH (memo [lr3]) hk0
theorem lw1_hk_ok : HkOK Tryz.prog 0 lw1_hk := orH_ok (memo_ok (fun M hM => by
  simp only [List.mem_cons, List.not_mem_nil, or_false] at hM
  subst hM
  exact lr3_ok)) hk0_ok
noncomputable def lw1_F : Funs := funs Tryz.prog 0 (goodL gl) xtabs lw1_hk 100000 60
theorem lw1_F_ok : FsOK Tryz.prog 0 lw1_F := funs_ok told lw1_hk_ok 60
theorem lw1_ok : MemOK Tryz.prog 0 lw1 := mem_ok lw1_F_ok (by kernel_rfl)
end Go.Proofs.YtdkklhnleppfcaaGreat
