import Derived.Test.YtdkklhnleppfcaaGreatVD
import Derived.Test.YtdkklhnleppfcaaGreatProg
set_option linter.unusedVariables false
set_option linter.unusedSimpArgs false

set_option linter.unusedVariables false
namespace Go.Proofs.YtdkklhnleppfcaaGreat
open Go Go.V
theorem mixed : Tryz.prog.follows .mixedOrders = true := by kernel_rfl
set_option maxRecDepth 100000

def F182L2 (ag1 : List Value → List Nat → World → Prop) (ρ : Env) (ds : List Nat) (w : World) (ag2 : List Value → List Nat → World → Prop) : Prop :=
  vBin (.int .i64) .lss (ρ 11) (.int .i64 8) fun v12 =>
  vBool v12 fun c_2 => if c_2 = true then
   (vIx .string .bad (ρ 0) (ρ 11) fun v17 =>
  vConv (.int .i64) v17 fun v18 =>
  vBin (.int .i64) .mul (.int .i64 8) (ρ 11) fun v20 =>
  vBin (.int .i64) .shl v18 v20 fun v21 =>
  vBin (.int .i64) .or (ρ 4) v21 fun v22 =>
  vBin (.int .i64) .add (ρ 11) (.int .i64 1) fun v23 =>
  ag2 [(ρ 0), (ρ 3), v22, v23] ds w)
  else
  vBuildSlice Tryz.prog 42 1 [(0, (ρ 4))] w fun v26 w =>
  vAppend Tryz.prog 42 42 (ρ 3) v26 w fun v27 w_2 =>
  vSlice .string (ρ 0) (some (.int .i64 8)) none fun v10 =>
  ag1 [v10, v27] ds w_2

def F182L1 (K : Value → World → Prop) (ρ : Env) (ds : List Nat) (w : World) (ag1 : List Value → List Nat → World → Prop) : Prop :=
  vLen .string (ρ 0) fun v7 =>
  vBin (.int .i64) .geq v7 (.int .i64 8) fun v8 =>
  vBool v8 fun c => if c = true then
   (loopF [0, 3, 4, 11] [(ρ 0), (ρ 3), (.int .i64 0), (.int .i64 0)] ds w (F182L2 ag1))
  else
  leaveV ds w fun W => K (ρ 3) W

/-- gatehouse/numbers.List -/
def F182 (t0 : Value) (w : World) (K : Value → World → Prop) : Prop :=
  loopF [0, 3] [t0, (.slice none 0 0)] [] w (F182L1 K)

def tab182 : Tab := { sel := [(6, [0, 3, 4, 11]), (2, [0, 3])], plan := [], join := [] }

theorem F182_eq (t0 : Value) (w : World) (K : Value → World → Prop) : enterV Tryz.prog tab182 Tryz.f182 [t0] w K = F182 t0 w K := by kernel_rfl

theorem F182_ok {t0 : Value} {w : World} {K : Value → World → Prop} (h : F182 t0 w K) : Ret Tryz.prog 182 #[t0] w K :=
  enter_sound (T := tab182) (args := [t0]) Tryz.func182 Tryz.call182 mixed (by kernel_rfl) (by rw [F182_eq]; exact h)

end Go.Proofs.YtdkklhnleppfcaaGreat
