/-
  Pages, part 15: lives. Own work.
-/
import Derived.Test.YtmaecpbkbkncgaaDoorP14
set_option linter.unusedVariables false
set_option linter.unusedSimpArgs false
set_option maxRecDepth 100000
namespace Go.Proofs.YtmaecpbkbkncgaaDoor
open Go Go.V Go.RowKit

theorem rExt0 {a b : Value} {K : Value → Prop} (k : K a) : vExt (.tuple #[a, b]) 0 K := k
theorem rExt1 {a b : Value} {K : Value → Prop} (k : K b) : vExt (.tuple #[a, b]) 1 K := k
theorem rSEq {l m : List UInt8} {K : Value → Prop} (k : K (.bool (l == m))) : vBin .string .eql (str l) (str m) K := k
theorem rSNe {l m : List UInt8} {K : Value → Prop} (k : K (.bool (!(l == m)))) : vBin .string .neq (str l) (str m) K := k

end Go.Proofs.YtmaecpbkbkncgaaDoor
