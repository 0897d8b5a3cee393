import Derived.Test.YtdkklhnleppfcaaGreatLS
set_option linter.unusedVariables false
set_option linter.unusedSimpArgs false

set_option maxRecDepth 100000
set_option linter.unusedVariables false
namespace Go.Proofs.YtdkklhnleppfcaaGreat
open Go Go.V Go.X
theorem ob_ok : MemOK Tryz.prog 0 ob := mem_ok F0_ok (by kernel_rfl)
end Go.Proofs.YtdkklhnleppfcaaGreat

set_option maxRecDepth 100000
set_option linter.unusedVariables false
namespace Go.Proofs.YtdkklhnleppfcaaGreat
open Go Go.V Go.X
theorem ps_ok : MemOK Tryz.prog 0 ps := mem_ok F0_ok (by kernel_rfl)
end Go.Proofs.YtdkklhnleppfcaaGreat

set_option maxRecDepth 100000
set_option linter.unusedVariables false
namespace Go.Proofs.YtdkklhnleppfcaaGreat
open Go Go.V Go.X
theorem nb_ok : MemOK Tryz.prog 0 nb := mem_ok F0_ok (by kernel_rfl)
theorem n1_ok : MemOK Tryz.prog 0 n1 := mem_ok F0_ok (by kernel_rfl)
theorem nl_ok : MemOK Tryz.prog 0 nl := mem_ok F0_ok (by kernel_rfl)
theorem ns_ok : MemOK Tryz.prog 0 ns := mem_ok F0_ok (by kernel_rfl)
theorem nh_ok : MemOK Tryz.prog 0 nh := mem_ok F0_ok (by kernel_rfl)
theorem np_ok : MemOK Tryz.prog 0 np := mem_ok F0_ok (by kernel_rfl)
end Go.Proofs.YtdkklhnleppfcaaGreat
