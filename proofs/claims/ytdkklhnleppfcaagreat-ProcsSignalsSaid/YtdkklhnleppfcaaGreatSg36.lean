import Derived.Test.YtdkklhnleppfcaaGreatSg34
import Derived.Test.YtdkklhnleppfcaaGreatSg35
set_option linter.unusedVariables false
set_option linter.unusedSimpArgs false

set_option maxRecDepth 100000
set_option linter.unusedVariables false
namespace Go.Proofs.YtdkklhnleppfcaaGreat
open Go Go.V Go.X
noncomputable def s1_hk : Hook := orH (memo [s0, bt]) hk0
theorem s1_hk_ok : HkOK Tryz.prog 0 s1_hk := orH_ok (memo_ok (fun M hM => by
  simp only [List.mem_cons, List.not_mem_nil, or_false] at hM
  rcases hM with rfl | rfl
  · exact s0_ok
  · exact bt_ok)) hk0_ok
noncomputable def s1_F : Funs := funs Tryz.prog 0 (goodL gl) xtabs s1_hk 100000 60
theorem s1_F_ok : FsOK Tryz.prog 0 s1_F := funs_ok told s1_hk_ok 60
theorem s1_ok : MemOK Tryz.prog 0 s1 := mem_ok s1_F_ok (by kernel_rfl)
end Go.Proofs.YtdkklhnleppfcaaGreat
