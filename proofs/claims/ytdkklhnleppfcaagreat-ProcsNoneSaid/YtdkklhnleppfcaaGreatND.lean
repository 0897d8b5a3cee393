import Derived.Test.YtdkklhnleppfcaaGreatK
set_option linter.unusedVariables false
set_option linter.unusedSimpArgs false

set_option maxRecDepth 100000
set_option linter.unusedVariables false
namespace Go.Proofs.YtdkklhnleppfcaaGreat
open Go Go.V Go.X
noncomputable def dA : St := (⟨.leaf, 0⟩ : St).new (.cells ⟨true, none, true, true⟩ 1 [lNP, lNP, lNP])
noncomputable def ansV : Value := lA [lI 4, lI 0, lI 0, lX []]
noncomputable def dM (r : Int) (u p n f : Int) (s : ByteArray) (k : Nat) : Mem := ⟨26, [lP 0 0, lA [lI r, lI u, lI p, lI n, lI f, .string s], lI 3, lI 9], dA, ansV, ⟨.leaf, k⟩⟩
theorem d1 (u p n f : Int) (s : ByteArray) : memT F0 (dM 1 u p n f s 9) = true := by kernel_rfl
theorem d2 (u p n f : Int) (s : ByteArray) : memT F0 (dM 2 u p n f s 9) = true := by kernel_rfl
theorem d3 (u p n f : Int) (s : ByteArray) : memT F0 (dM 3 u p n f s 9) = true := by kernel_rfl
theorem d4 (u p n f : Int) (s : ByteArray) : memT F0 (dM 4 u p n f s 9) = true := by kernel_rfl
theorem d5 (u p n f : Int) (s : ByteArray) : memT F0 (dM 5 u p n f s 9) = true := by kernel_rfl
theorem d6 (u p n f : Int) (s : ByteArray) : memT F0 (dM 6 u p n f s 10) = true := by kernel_rfl
theorem d7 (u p n f : Int) (s : ByteArray) : memT F0 (dM 7 u p n f s 10) = true := by kernel_rfl
theorem d8 (u p n f : Int) (s : ByteArray) : memT F0 (dM 8 u p n f s 10) = true := by kernel_rfl
theorem d9 (u p n f : Int) (s : ByteArray) : memT F0 (dM 9 u p n f s 10) = true := by kernel_rfl
end Go.Proofs.YtdkklhnleppfcaaGreat
