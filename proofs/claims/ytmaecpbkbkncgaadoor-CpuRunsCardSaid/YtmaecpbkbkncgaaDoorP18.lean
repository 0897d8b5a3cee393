/-
  Pages, part 18: the law PagesSizes: its inner loop. Own work.
-/
import Derived.Test.YtmaecpbkbkncgaaDoorP16
set_option linter.unusedVariables false
set_option linter.unusedSimpArgs false
set_option maxRecDepth 100000
namespace Go.Proofs.YtmaecpbkbkncgaaDoor
open Go Go.V Go.RowKit

theorem rIxS {l : List UInt8} {k : Nat} {b : UInt8} {d : LD} {kd : IntKind} {K : Value → Prop} (h : l[k]? = some b) (hK : K (.int .u8 b.toNat)) : vIx .string d (str l) (.int kd k) K := by
  unfold vIx
  refine ⟨by omega, ?_⟩
  simp only [Int.toNat_natCast, h]
  exact hK

theorem rNe8 {a b : Int} {K : Value → Prop} (k : K (.bool (a != b))) : vBin (.int .u8) .neq (.int .u8 a) (.int .u8 b) K := ⟨rfl, k⟩

end Go.Proofs.YtmaecpbkbkncgaaDoor
