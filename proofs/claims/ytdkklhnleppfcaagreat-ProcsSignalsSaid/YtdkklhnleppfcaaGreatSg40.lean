import Derived.Test.YtdkklhnleppfcaaGreatSg38
import Derived.Test.YtdkklhnleppfcaaGreatSg39
set_option linter.unusedVariables false
set_option linter.unusedSimpArgs false

set_option maxRecDepth 100000
set_option linter.unusedVariables false
namespace Go.Proofs.YtdkklhnleppfcaaGreat
open Go Go.V Go.X
noncomputable def lf0_hk : Hook := orH (memo [lr0, lk0]) hk0
theorem lf0_hk_ok : HkOK Tryz.prog 0 lf0_hk := orH_ok (memo_ok (fun M hM => by
  simp only [List.mem_cons, List.not_mem_nil, or_false] at hM
  rcases hM with rfl | rfl
  · exact lr0_ok
  · exact lk0_ok)) hk0_ok
noncomputable def lf0_F : Funs := funs Tryz.prog 0 (goodL gl) xtabs lf0_hk 100000 60
theorem lf0_F_ok : FsOK Tryz.prog 0 lf0_F := funs_ok told lf0_hk_ok 60
theorem lf0_ok : MemOK Tryz.prog 0 lf0 := mem_ok lf0_F_ok (by kernel_rfl)
end Go.Proofs.YtdkklhnleppfcaaGreat
