import Derived.Test.YtdkklhnleppfcaaGreatSg30
import Derived.Test.YtdkklhnleppfcaaGreatSg31
set_option linter.unusedVariables false
set_option linter.unusedSimpArgs false

set_option maxRecDepth 100000
set_option linter.unusedVariables false
namespace Go.Proofs.YtdkklhnleppfcaaGreat
open Go Go.V Go.X
noncomputable def gf_hk : Hook := orH (memo [gr, gk]) hk0
theorem gf_hk_ok : HkOK Tryz.prog 0 gf_hk := orH_ok (memo_ok (fun M hM => by
  simp only [List.mem_cons, List.not_mem_nil, or_false] at hM
  rcases hM with rfl | rfl
  · exact gr_ok
  · exact gk_ok)) hk0_ok
noncomputable def gf_F : Funs := funs Tryz.prog 0 (goodL gl) xtabs gf_hk 100000 60
theorem gf_F_ok : FsOK Tryz.prog 0 gf_F := funs_ok told gf_hk_ok 60
theorem gf_ok : MemOK Tryz.prog 0 gf := mem_ok gf_F_ok (by kernel_rfl)
end Go.Proofs.YtdkklhnleppfcaaGreat
