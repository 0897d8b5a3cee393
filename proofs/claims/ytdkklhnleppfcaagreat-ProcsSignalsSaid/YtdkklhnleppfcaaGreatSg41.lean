import Derived.Test.YtdkklhnleppfcaaGreatSg37
set_option linter.unusedVariables false
set_option linter.unusedSimpArgs false

set_option maxRecDepth 100000
set_option linter.unusedVariables false
namespace Go.Proofs.YtdkklhnleppfcaaGreat
open Go Go.V Go.X
theorem lr1_ok : MemOK Tryz.prog 0 lr1 := mem_ok F0_ok (by kernel_rfl)
end Go.Proofs.YtdkklhnleppfcaaGreat
