import Derived.Test.YtelkbliggjfdaaaGreatDoorK
set_option linter.unusedVariables false
set_option linter.unusedSimpArgs false

set_option maxRecDepth 100000
set_option linter.unusedVariables false
namespace Go.Proofs.YtelkbliggjfdaaaGreatDoor
open Go Go.V Go.X
noncomputable def n5a : St := ⟨mkT ([]), 3⟩
noncomputable def n5b : St := ⟨mkT ([]), 5⟩
noncomputable def n5 : Mem := ⟨5, [lNP, lA [lI 3, lI 9], lI 1, lA [lI 2, lNS], lI 9999], n5a, lT [lNP, lI 4], n5b⟩
theorem n5_ok : MemOK Tryz.prog 3 n5 := mem_ok (F0_ok) (by kernel_rfl)
end Go.Proofs.YtelkbliggjfdaaaGreatDoor

set_option maxRecDepth 100000
set_option linter.unusedVariables false
namespace Go.Proofs.YtelkbliggjfdaaaGreatDoor
open Go Go.V Go.X
noncomputable def n6a : St := ⟨mkT ([]), 3⟩
noncomputable def n6b : St := ⟨mkT ([]), 4⟩
noncomputable def n6 : Mem := ⟨6, [], n6a, lA [lI 2, lNS], n6b⟩
theorem n6_ok : MemOK Tryz.prog 3 n6 := mem_ok (F0_ok) (by kernel_rfl)
end Go.Proofs.YtelkbliggjfdaaaGreatDoor

set_option maxRecDepth 100000
set_option linter.unusedVariables false
namespace Go.Proofs.YtelkbliggjfdaaaGreatDoor
open Go Go.V Go.X
noncomputable def n8a : St := ⟨mkT ([]), 3⟩
noncomputable def n8b : St := ⟨mkT ([]), 9⟩
noncomputable def n8 : Mem := ⟨8, [lA [lI 4, lX [], lI 0, lI 0, lI 0, lI 0, lI 0, lNS, lNS], lA [lI 4, lX [], lI 0, lI 0, lI 0, lI 0, lI 0, lNS, lNS]], n8a, .bool true, n8b⟩
theorem n8_ok : MemOK Tryz.prog 3 n8 := mem_ok (F0_ok) (by kernel_rfl)
end Go.Proofs.YtelkbliggjfdaaaGreatDoor
