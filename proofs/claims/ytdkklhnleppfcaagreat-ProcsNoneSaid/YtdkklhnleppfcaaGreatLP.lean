import Derived.Test.YtdkklhnleppfcaaGreatLR0
import Derived.Test.YtdkklhnleppfcaaGreatLK0
import Derived.Test.YtdkklhnleppfcaaGreatLR2
import Derived.Test.YtdkklhnleppfcaaGreatLE0
import Derived.Test.YtdkklhnleppfcaaGreatLR1
import Derived.Test.YtdkklhnleppfcaaGreatLR3
import Derived.Test.YtdkklhnleppfcaaGreatLR4
import Derived.Test.YtdkklhnleppfcaaGreatS0
import Derived.Test.YtdkklhnleppfcaaGreatBT
set_option linter.unusedVariables false
set_option linter.unusedSimpArgs false

set_option maxRecDepth 100000
set_option linter.unusedVariables false
namespace Go.Proofs.YtdkklhnleppfcaaGreat
open Go Go.V Go.X
noncomputable def lf0_hk : Hook := orH (memo [lr0, lk0]) hk0
theorem lf0_hk_ok : HkOK Tryz.prog 0 lf0_hk := orH_ok (memo_ok (fun M hM => by
  simp only [List.mem_cons, List.not_mem_nil, or_false] at hM
  rcases hM with rfl | rfl
  · exact lr0_ok
  · exact lk0_ok)) hk0_ok
noncomputable def lf0_F : Funs := funs Tryz.prog 0 (goodL gl) xtabs lf0_hk 100000 60
theorem lf0_F_ok : FsOK Tryz.prog 0 lf0_F := funs_ok told lf0_hk_ok 60
theorem lf0_ok : MemOK Tryz.prog 0 lf0 := mem_ok lf0_F_ok (by kernel_rfl)
end Go.Proofs.YtdkklhnleppfcaaGreat

set_option maxRecDepth 100000
set_option linter.unusedVariables false
namespace Go.Proofs.YtdkklhnleppfcaaGreat
open Go Go.V Go.X
noncomputable def lx0_hk : Hook := orH (memo [lr2, le0]) hk0
theorem lx0_hk_ok : HkOK Tryz.prog 0 lx0_hk := orH_ok (memo_ok (fun M hM => by
  simp only [List.mem_cons, List.not_mem_nil, or_false] at hM
  rcases hM with rfl | rfl
  · exact lr2_ok
  · exact le0_ok)) hk0_ok
noncomputable def lx0_F : Funs := funs Tryz.prog 0 (goodL gl) xtabs lx0_hk 100000 60
theorem lx0_F_ok : FsOK Tryz.prog 0 lx0_F := funs_ok told lx0_hk_ok 60
theorem lx0_ok : MemOK Tryz.prog 0 lx0 := mem_ok lx0_F_ok (by kernel_rfl)
end Go.Proofs.YtdkklhnleppfcaaGreat

set_option maxRecDepth 100000
set_option linter.unusedVariables false
namespace Go.Proofs.YtdkklhnleppfcaaGreat
open Go Go.V Go.X
noncomputable def lw0_hk : Hook := orH (memo [lr1]) hk0
theorem lw0_hk_ok : HkOK Tryz.prog 0 lw0_hk := orH_ok (memo_ok (fun M hM => by
  simp only [List.mem_cons, List.not_mem_nil, or_false] at hM
  subst hM
  exact lr1_ok)) hk0_ok
noncomputable def lw0_F : Funs := funs Tryz.prog 0 (goodL gl) xtabs lw0_hk 100000 60
theorem lw0_F_ok : FsOK Tryz.prog 0 lw0_F := funs_ok told lw0_hk_ok 60
theorem lw0_ok : MemOK Tryz.prog 0 lw0 := mem_ok lw0_F_ok (by kernel_rfl)
end Go.Proofs.YtdkklhnleppfcaaGreat

set_option maxRecDepth 100000
set_option linter.unusedVariables false
namespace Go.Proofs.YtdkklhnleppfcaaGreat
open Go Go.V Go.X
noncomputable def lw1_hk : Hook := orH (memo [lr3]) hk0
theorem lw1_hk_ok : HkOK Tryz.prog 0 lw1_hk := orH_ok (memo_ok (fun M hM => by
  simp only [List.mem_cons, List.not_mem_nil, or_false] at hM
  subst hM
  exact lr3_ok)) hk0_ok
noncomputable def lw1_F : Funs := funs Tryz.prog 0 (goodL gl) xtabs lw1_hk 100000 60
theorem lw1_F_ok : FsOK Tryz.prog 0 lw1_F := funs_ok told lw1_hk_ok 60
theorem lw1_ok : MemOK Tryz.prog 0 lw1 := mem_ok lw1_F_ok (by kernel_rfl)
end Go.Proofs.YtdkklhnleppfcaaGreat

set_option maxRecDepth 100000
set_option linter.unusedVariables false
namespace Go.Proofs.YtdkklhnleppfcaaGreat
open Go Go.V Go.X
noncomputable def lw2_hk : Hook := orH (memo [lr4]) hk0
theorem lw2_hk_ok : HkOK Tryz.prog 0 lw2_hk := orH_ok (memo_ok (fun M hM => by
  simp only [List.mem_cons, List.not_mem_nil, or_false] at hM
  subst hM
  exact lr4_ok)) hk0_ok
noncomputable def lw2_F : Funs := funs Tryz.prog 0 (goodL gl) xtabs lw2_hk 100000 60
theorem lw2_F_ok : FsOK Tryz.prog 0 lw2_F := funs_ok told lw2_hk_ok 60
theorem lw2_ok : MemOK Tryz.prog 0 lw2 := mem_ok lw2_F_ok (by kernel_rfl)
end Go.Proofs.YtdkklhnleppfcaaGreat

set_option maxRecDepth 100000
set_option linter.unusedVariables false
namespace Go.Proofs.YtdkklhnleppfcaaGreat
open Go Go.V Go.X
noncomputable def s1_hk : Hook := orH (memo [s0, bt]) hk0
theorem s1_hk_ok : HkOK Tryz.prog 0 s1_hk := orH_ok (memo_ok (fun M hM => by
  simp only [List.mem_cons, List.not_mem_nil, or_false] at hM
  rcases hM with rfl | rfl
  · exact s0_ok
  · exact bt_ok)) hk0_ok
noncomputable def s1_F : Funs := funs Tryz.prog 0 (goodL gl) xtabs s1_hk 100000 60
theorem s1_F_ok : FsOK Tryz.prog 0 s1_F := funs_ok told s1_hk_ok 60
theorem s1_ok : MemOK Tryz.prog 0 s1 := mem_ok s1_F_ok (by kernel_rfl)
end Go.Proofs.YtdkklhnleppfcaaGreat

set_option maxRecDepth 100000
set_option linter.unusedVariables false
namespace Go.Proofs.YtdkklhnleppfcaaGreat
open Go Go.V Go.X
noncomputable def ll_hk : Hook := orH (memo [s1, lf0, lw0, lx0, lw1, lw2]) hk0
theorem ll_hk_ok : HkOK Tryz.prog 0 ll_hk := orH_ok (memo_ok (fun M hM => by
  simp only [List.mem_cons, List.not_mem_nil, or_false] at hM
  rcases hM with rfl | rfl | rfl | rfl | rfl | rfl
  · exact s1_ok
  · exact lf0_ok
  · exact lw0_ok
  · exact lx0_ok
  · exact lw1_ok
  · exact lw2_ok)) hk0_ok
noncomputable def ll_F : Funs := funs Tryz.prog 0 (goodL gl) xtabs ll_hk 100000 60
theorem ll_F_ok : FsOK Tryz.prog 0 ll_F := funs_ok told ll_hk_ok 60
theorem ll_ok : MemOK Tryz.prog 0 ll := mem_ok ll_F_ok (by kernel_rfl)
end Go.Proofs.YtdkklhnleppfcaaGreat
