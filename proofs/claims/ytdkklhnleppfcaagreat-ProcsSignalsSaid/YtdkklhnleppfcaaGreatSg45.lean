import Derived.Test.YtdkklhnleppfcaaGreatSg43
import Derived.Test.YtdkklhnleppfcaaGreatSg44
set_option linter.unusedVariables false
set_option linter.unusedSimpArgs false

set_option maxRecDepth 100000
set_option linter.unusedVariables false
namespace Go.Proofs.YtdkklhnleppfcaaGreat
open Go Go.V Go.X
noncomputable def lx0_hk : Hook := orH (memo [lr2, le0]) hk0
theorem lx0_hk_ok : HkOK Tryz.prog 0 lx0_hk := orH_ok (memo_ok (fun M hM => by
  simp only [List.mem_cons, List.not_mem_nil, or_false] at hM
  rcases hM with rfl | rfl
  · exact lr2_ok
  · exact le0_ok)) hk0_ok
noncomputable def lx0_F : Funs := funs Tryz.prog 0 (goodL gl) xtabs lx0_hk 100000 60
theorem lx0_F_ok : FsOK Tryz.prog 0 lx0_F := funs_ok told lx0_hk_ok 60
theorem lx0_ok : MemOK Tryz.prog 0 lx0 := mem_ok lx0_F_ok (by kernel_rfl)
end Go.Proofs.YtdkklhnleppfcaaGreat
