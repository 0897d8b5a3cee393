import Derived.Test.YtdkklhnleppfcaaGreatSg29
set_option linter.unusedVariables false
set_option linter.unusedSimpArgs false

set_option maxRecDepth 100000
set_option linter.unusedVariables false
namespace Go.Proofs.YtdkklhnleppfcaaGreat
open Go Go.V Go.X
theorem gr_ok : MemOK Tryz.prog 0 gr := mem_ok F0_ok (by kernel_rfl)
end Go.Proofs.YtdkklhnleppfcaaGreat
