import Derived.Test.YtelkbliggjfdaaaGreatDoorK
import Derived.Test.YtelkbliggjfdaaaGreatDoorM1
import Derived.Test.YtelkbliggjfdaaaGreatDoorMA
import Derived.Test.YtelkbliggjfdaaaGreatDoorMB
set_option linter.unusedVariables false
set_option linter.unusedSimpArgs false

set_option maxRecDepth 100000
set_option linter.unusedVariables false
namespace Go.Proofs.YtelkbliggjfdaaaGreatDoor
open Go Go.V Go.X
noncomputable def hkM : Hook := orH (memo [m1, m2, m3, m4, m5, m6, m7]) hk0
noncomputable def FM : Funs := funs Tryz.prog 3 (goodL gl) xtabs hkM 100000 60
theorem hkM_ok : HkOK Tryz.prog 3 hkM := orH_ok (memo_ok (fun M hM => by
  simp only [List.mem_cons, List.not_mem_nil, or_false] at hM
  rcases hM with rfl | rfl | rfl | rfl | rfl | rfl | rfl
  · exact m1_ok
  · exact m2_ok
  · exact m3_ok
  · exact m4_ok
  · exact m5_ok
  · exact m6_ok
  · exact m7_ok)) hk0_ok
theorem FM_ok : FsOK Tryz.prog 3 FM := funs_ok told hkM_ok 60
noncomputable def mla : St := ⟨mkT ([]), 3⟩
noncomputable def mlb : St := ⟨mkT ([]), 4222⟩
noncomputable def ml : Mem := ⟨4, [], mla, .bool true, mlb⟩
theorem ml_ok : MemOK Tryz.prog 3 ml := mem_ok (FM_ok) (by kernel_rfl)
end Go.Proofs.YtelkbliggjfdaaaGreatDoor
