import Derived.Test.YtdkklhnleppfcaaGreatSg15
import Derived.Test.YtdkklhnleppfcaaGreatSg05
import Derived.Test.YtdkklhnleppfcaaGreatProg
set_option linter.unusedVariables false
set_option linter.unusedSimpArgs false

set_option linter.unusedVariables false
namespace Go.Proofs.YtdkklhnleppfcaaGreat
open Go Go.V
set_option maxRecDepth 100000

def F46L1 (K : Value → World → Prop) (ρ : Env) (ds : List Nat) (w : World) (ag1 : List Value → List Nat → World → Prop) : Prop :=
  vBin (.int .i64) .lss (ρ 63) (.int .i64 32) fun v64 =>
  vBool v64 fun c_2 => if c_2 = true then
   (vNilP Tryz.prog (ρ 61) fun v65 =>
  vIA (.arr 32 6) v65 (ρ 63) fun v66 =>
  vLd (.agg 6) v66 w fun v67 =>
  vAlloc Tryz.prog 77 w fun v14 w_7 =>
  vSt (some 6) v14 v67 w_7 fun w_8 =>
  vFA (some 2) v14 fun v68 =>
  vLd .one v68 w_8 fun v69 =>
  vFA (some 0) (ρ 3) fun v70 =>
  vLd .one v70 w_8 fun v71 =>
  vBin (.int .i64) .eql v69 v71 fun v72 =>
  vBool v72 fun g => if g = true then
  (vFA (some 1) v14 fun v74 =>
  vLd .one v74 w_8 fun v75 =>
  vBin (.int .i64) .neq v75 (.int .i64 0) fun v76 =>
  vBool v76 fun g_2 => if g_2 = true then
  (vFA (some 4) v14 fun v79 =>
  vLd .one v79 w_8 fun v80 =>
  vUn .not v80 fun v81 =>
  vBool v81 fun c_3 => if c_3 = true then
   (vLd (.agg 6) v14 w_8 fun v83 =>
   vSt (some 6) (ρ 12) v83 w_8 fun w_9 =>
   vBin (.int .i64) .add (ρ 63) (.int .i64 1) fun v84 =>
  ag1 [(ρ 3), (ρ 5), (ρ 11), (ρ 12), (ρ 61), v84] ds w_9)
  else
  vBin (.int .i64) .add (ρ 63) (.int .i64 1) fun v84_2 =>
  ag1 [(ρ 3), (ρ 5), (ρ 11), (ρ 12), (ρ 61), v84_2] ds w_8)
  else
  (vBin (.int .i64) .add (ρ 63) (.int .i64 1) fun v84_3 =>
  ag1 [(ρ 3), (ρ 5), (ρ 11), (ρ 12), (ρ 61), v84_3] ds w_8))
  else
  (vBin (.int .i64) .add (ρ 63) (.int .i64 1) fun v84_4 =>
  ag1 [(ρ 3), (ρ 5), (ρ 11), (ρ 12), (ρ 61), v84_4] ds w_8))
  else
  vFA (some 0) (ρ 12) fun v85 =>
  vLd .one v85 w fun v86 =>
  vBin (.int .i64) .eql v86 (.int .i64 0) fun v87 =>
  vBool v87 fun c_4 => if c_4 = true then
   (drawF w fun S =>
   vLdS S (.agg 6) (ρ 12) fun v88 =>
   (vSt (some 6) (ρ 5) v88 w.drew fun w_10 =>
   (leaveV ds w_10 fun W => vLd (.agg 6) (ρ 5) W fun r_2 => K (.tuple #[(.pointer none), r_2, (.int .i64 36)]) W)) ∧
   (True))
  else
  drawF w fun S_2 =>
  vLdS S_2 (.agg 6) (ρ 12) fun v90 =>
  (vSt (some 6) (ρ 5) v90 w.drew fun w_11 =>
  (leaveV ds w_11 fun W => vLd (.agg 6) (ρ 5) W fun r_3 => K (.tuple #[(ρ 11), r_3, (.int .i64 0)]) W)) ∧
  (True)

def F46J2 (K : Value → World → Prop) (ρ : Env) (ds : List Nat) (w : World) : Prop :=
  vFA (some 1) (ρ 9) fun v57 =>
  vLd .one v57 w fun v58 =>
  CallK Tryz.prog 85 #[v58] w fun v59 w_4 =>
  vBuild Tryz.prog 77 [] fun v60 =>
  vAlloc Tryz.prog 77 w_4 fun v12 w_5 =>
  vSt (some 6) v12 v60 w_5 fun w_6 =>
  vNilP Tryz.prog v59 fun v62 =>
  loopF [3, 5, 11, 12, 61, 63] [(ρ 3), (ρ 5), v59, v12, v59, (.int .i64 0)] ds w_6 (F46L1 K)

def F46J1 (K : Value → World → Prop) (ρ : Env) (ds : List Nat) (w : World) : Prop :=
  joinF [3, 5, 9] (fun J2 =>
  drawF w fun S =>
  vNilP Tryz.prog (ρ 0) fun v42 =>
  vFA (some 0) v42 fun v43 =>
  vLdS S .one v43 fun v44 =>
  vFA (some 0) (ρ 3) fun v45 =>
  vLdS S .one v45 fun v46 =>
  vNilP Tryz.prog (ρ 0) fun v49 =>
  vFA (some 2) v49 fun v50 =>
  vLdS S .one v50 fun v51 =>
  (CallK Tryz.prog 49 #[(ρ 0), v51] w.drew fun v52 w_4 =>
  S w_4 ∧ (vBuild Tryz.prog 60 [(0, (.int .i64 14)), (1, v52), (4, (.int .i64 1280))] fun v53 =>
  (CallK Tryz.prog 18 #[v44, v46, v53, (.int .i64 0)] w_4 fun v54 w_5 =>
  S w_5 ∧ (vExt v54 0 fun v55 =>
  vExt v54 1 fun v56 =>
  (vAlloc Tryz.prog 52 w_5 fun v9 w_6 =>
  S w_6 ∧ ((vSt (some 8) v9 v55 w_6 fun w_7 =>
  (J2 [(ρ 3), (ρ 5), v9] ds w_7)) ∧
  (True))) ∧
  (True))) ∧
  ((vAlloc Tryz.prog 52 w_4 fun v9_2 w_8 =>
  S w_8 ∧ ((CallK Tryz.prog 18 #[v44, v46, v53, (.int .i64 0)] w_8 fun v54_2 w_9 =>
  S w_9 ∧ (vExt v54_2 0 fun v55_2 =>
  vExt v54_2 1 fun v56_2 =>
  (vSt (some 8) v9_2 v55_2 w_9 fun w_10 =>
  (J2 [(ρ 3), (ρ 5), v9_2] ds w_10)) ∧
  (True))) ∧
  (True))) ∧
  (True)))) ∧
  ((vAlloc Tryz.prog 52 w.drew fun v9_3 w_11 =>
  S w_11 ∧ ((CallK Tryz.prog 49 #[(ρ 0), v51] w_11 fun v52_2 w_12 =>
  S w_12 ∧ (vBuild Tryz.prog 60 [(0, (.int .i64 14)), (1, v52_2), (4, (.int .i64 1280))] fun v53_2 =>
  (CallK Tryz.prog 18 #[v44, v46, v53_2, (.int .i64 0)] w_12 fun v54_3 w_13 =>
  S w_13 ∧ (vExt v54_3 0 fun v55_3 =>
  vExt v54_3 1 fun v56_3 =>
  (vSt (some 8) v9_3 v55_3 w_13 fun w_14 =>
  (J2 [(ρ 3), (ρ 5), v9_3] ds w_14)) ∧
  (True))) ∧
  (True))) ∧
  (True))) ∧
  (True)))
  (F46J2 K)

def F46 (t0 : Value) (t1 : Value) (w : World) (K : Value → World → Prop) : Prop :=
  vBox 36 t1 w fun v3 w =>
  vAlloc Tryz.prog 77 w fun v5 w_2 =>
  vPtr .eql t0 (.pointer none) w_2 fun v16 =>
  vBool v16 fun c => if c = true then
   (vBuild Tryz.prog 77 [] fun v17 =>
   vSt (some 6) v5 v17 w_2 fun w_3 =>
   vLd (.agg 6) v5 w_3 fun r => K (.tuple #[(.pointer none), r, (.int .i64 4)]) w_3)
  else
  joinF [0, 3, 5] (fun J1 =>
  drawF w_2 fun S =>
  vNilP Tryz.prog t0 fun v20 =>
  vFA (some 0) v20 fun v21 =>
  vLdS S .one v21 fun v22 =>
  vFA (some 0) v3 fun v23 =>
  vLdS S .one v23 fun v24 =>
  vNilP Tryz.prog t0 fun v27 =>
  vFA (some 2) v27 fun v28 =>
  vLdS S .one v28 fun v29 =>
  (CallK Tryz.prog 49 #[t0, v29] w_2.drew fun v30 w_4 =>
  S w_4 ∧ (vBuild Tryz.prog 60 [(0, (.int .i64 15)), (1, v30)] fun v31 =>
  (CallK Tryz.prog 18 #[v22, v24, v31, (.int .i64 0)] w_4 fun v32 w_5 =>
  S w_5 ∧ (vExt v32 0 fun v33 =>
  vExt v32 1 fun v34 =>
  (vAlloc Tryz.prog 52 w_5 fun v7 w_6 =>
  S w_6 ∧ ((vSt (some 8) v7 v33 w_6 fun w_7 =>
  (vBin (.int .i64) .neq v34 (.int .i64 0) fun v36 =>
  vBool v36 fun c_2 => if c_2 = true then
   (vBuild Tryz.prog 77 [] fun v37 =>
   CallK Tryz.prog 51 #[v34] w_7 fun v39 w_8 =>
   vSt (some 6) v5 v37 w_8 fun w_9 =>
   vLd (.agg 6) v5 w_9 fun r_2 => K (.tuple #[(.pointer none), r_2, v39]) w_9)
  else
  J1 [t0, v3, v5] [] w_7)) ∧
  (True))) ∧
  (True))) ∧
  ((vAlloc Tryz.prog 52 w_4 fun v7_2 w_10 =>
  S w_10 ∧ ((CallK Tryz.prog 18 #[v22, v24, v31, (.int .i64 0)] w_10 fun v32_2 w_11 =>
  S w_11 ∧ (vExt v32_2 0 fun v33_2 =>
  vExt v32_2 1 fun v34_2 =>
  (vSt (some 8) v7_2 v33_2 w_11 fun w_12 =>
  (vBin (.int .i64) .neq v34_2 (.int .i64 0) fun v36_2 =>
  vBool v36_2 fun c_3 => if c_3 = true then
   (vBuild Tryz.prog 77 [] fun v37_2 =>
   CallK Tryz.prog 51 #[v34_2] w_12 fun v39_2 w_13 =>
   vSt (some 6) v5 v37_2 w_13 fun w_14 =>
   vLd (.agg 6) v5 w_14 fun r_3 => K (.tuple #[(.pointer none), r_3, v39_2]) w_14)
  else
  J1 [t0, v3, v5] [] w_12)) ∧
  (True))) ∧
  (True))) ∧
  (True)))) ∧
  ((vAlloc Tryz.prog 52 w_2.drew fun v7_3 w_15 =>
  S w_15 ∧ ((CallK Tryz.prog 49 #[t0, v29] w_15 fun v30_2 w_16 =>
  S w_16 ∧ (vBuild Tryz.prog 60 [(0, (.int .i64 15)), (1, v30_2)] fun v31_2 =>
  (CallK Tryz.prog 18 #[v22, v24, v31_2, (.int .i64 0)] w_16 fun v32_3 w_17 =>
  S w_17 ∧ (vExt v32_3 0 fun v33_3 =>
  vExt v32_3 1 fun v34_3 =>
  (vSt (some 8) v7_3 v33_3 w_17 fun w_18 =>
  (vBin (.int .i64) .neq v34_3 (.int .i64 0) fun v36_3 =>
  vBool v36_3 fun c_4 => if c_4 = true then
   (vBuild Tryz.prog 77 [] fun v37_3 =>
   CallK Tryz.prog 51 #[v34_3] w_18 fun v39_3 w_19 =>
   vSt (some 6) v5 v37_3 w_19 fun w_20 =>
   vLd (.agg 6) v5 w_20 fun r_4 => K (.tuple #[(.pointer none), r_4, v39_3]) w_20)
  else
  J1 [t0, v3, v5] [] w_18)) ∧
  (True))) ∧
  (True))) ∧
  (True))) ∧
  (True)))
  (F46J1 K)

def tab46 : Tab := { sel := [(10, [3, 5, 11, 12, 61, 63])], plan := [(3, (.take 0 (.take 1 (.take 2 (.take 3 (.take 4 (.take 5 (.take 6 (.take 7 (.take 8 (.take 9 (.take 10 (.alt 11 (.take 12 (.alt 13 (.take 14 (.take 15 (.take 16 (.alt 17 (.alt 18 (.take 19 .done) .stop) .stop)))) (.alt 17 (.alt 13 (.take 14 (.take 15 (.take 16 (.alt 18 (.take 19 .done) .stop)))) .stop) .stop))) (.alt 17 (.alt 11 (.take 12 (.alt 13 (.take 14 (.take 15 (.take 16 (.alt 18 (.take 19 .done) .stop)))) .stop)) .stop) .stop)))))))))))))), (6, (.take 0 (.take 1 (.take 2 (.take 3 (.take 4 (.take 5 (.take 6 (.take 7 (.take 8 (.take 9 (.take 10 (.alt 11 (.take 12 (.alt 13 (.take 14 (.take 15 (.take 16 (.alt 17 (.alt 18 (.take 19 .done) .stop) .stop)))) (.alt 17 (.alt 13 (.take 14 (.take 15 (.take 16 (.alt 18 (.take 19 .done) .stop)))) .stop) .stop))) (.alt 17 (.alt 11 (.take 12 (.alt 13 (.take 14 (.take 15 (.take 16 (.alt 18 (.take 19 .done) .stop)))) .stop)) .stop) .stop)))))))))))))), (16, (.take 0 (.take 1 (.alt 2 (.take 3 .done) .stop)))), (17, (.take 0 (.take 1 (.take 2 (.alt 3 (.take 4 .done) .stop)))))], join := [(7, [3, 5, 9]), (6, [0, 3, 5])] }

theorem F46_eq (t0 : Value) (t1 : Value) (w : World) (K : Value → World → Prop) : enterV Tryz.prog tab46 Tryz.f46 [t0, t1] w K = F46 t0 t1 w K := by kernel_rfl

theorem F46_ok {t0 : Value} {t1 : Value} {w : World} {K : Value → World → Prop} (h : F46 t0 t1 w K) : Ret Tryz.prog 46 #[t0, t1] w K :=
  enter_sound (T := tab46) (args := [t0, t1]) Tryz.func46 Tryz.call46 mixed (by kernel_rfl) (by rw [F46_eq]; exact h)

def F49 (t0 : Value) (t1 : Value) (w : World) (K : Value → World → Prop) : Prop :=
  vAlloc Tryz.prog 56 w fun v4 w =>
  vNilP Tryz.prog t0 fun v6 =>
  vFA (some 1) v6 fun v7 =>
  vLd .one v7 w fun v8 =>
  CallK Tryz.prog 109 #[v8] w fun v9 w_2 =>
  vBuild Tryz.prog 56 [(0, v9), (1, t1)] fun v11 =>
  vSt (some 2) v4 v11 w_2 fun w_3 =>
  vLd (.agg 2) v4 w_3 fun r => K r w_3

def tab49 : Tab := { sel := [], plan := [], join := [] }

theorem F49_eq (t0 : Value) (t1 : Value) (w : World) (K : Value → World → Prop) : enterV Tryz.prog tab49 Tryz.f49 [t0, t1] w K = F49 t0 t1 w K := by kernel_rfl

theorem F49_ok {t0 : Value} {t1 : Value} {w : World} {K : Value → World → Prop} (h : F49 t0 t1 w K) : Ret Tryz.prog 49 #[t0, t1] w K :=
  enter_sound (T := tab49) (args := [t0, t1]) Tryz.func49 Tryz.call49 mixed (by kernel_rfl) (by rw [F49_eq]; exact h)

def F51J3 (K : Value → World → Prop) (ρ : Env) (ds : List Nat) (w : World) : Prop :=
  vBool (ρ 8) fun c_5 => if c_5 = true then
   (leaveV ds w fun W => K (.int .i64 26) W)
  else
  vBin (.int .i64) .eql (ρ 3) (.int .i64 6) fun v12 =>
  vBool v12 fun c_6 => if c_6 = true then
   (vBool v12 fun c_7 => if c_7 = true then
   (leaveV ds w fun W => K (.int .i64 27) W)
  else
  leaveV ds w fun W => K (.int .i64 31) W)
  else
  vBin (.int .i64) .eql (ρ 3) (.int .i64 7) fun v13 =>
  vBool v13 fun c_8 => if c_8 = true then
   (leaveV ds w fun W => K (.int .i64 27) W)
  else
  leaveV ds w fun W => K (.int .i64 31) W

def F51 (t0 : Value) (w : World) (K : Value → World → Prop) : Prop :=
  vBin (.int .i64) .eql t0 (.int .i64 0) fun v5 =>
  vBool v5 fun c => if c = true then
   (vBool v5 fun c_2 => if c_2 = true then
   (K t0 w)
  else
  joinF [3, 8] (fun J3 =>
  vBin (.int .i64) .eql t0 (.int .i64 3) fun v9 =>
  vBool v9 fun c_3 => if c_3 = true then
   (J3 [t0, v9] [] w)
  else
  vBin (.int .i64) .eql t0 (.int .i64 4) fun v10 =>
  J3 [t0, v10] [] w)
  (F51J3 K))
  else
  vBin (.int .i64) .eql t0 (.int .i64 11) fun v6 =>
  vBool v6 fun c_4 => if c_4 = true then
   (K t0 w)
  else
  joinF [3, 8] (fun J3 =>
  vBin (.int .i64) .eql t0 (.int .i64 3) fun v9_2 =>
  vBool v9_2 fun c_5 => if c_5 = true then
   (J3 [t0, v9_2] [] w)
  else
  vBin (.int .i64) .eql t0 (.int .i64 4) fun v10_2 =>
  J3 [t0, v10_2] [] w)
  (F51J3 K)

def tab51 : Tab := { sel := [], plan := [], join := [(7, [3, 8])] }

theorem F51_eq (t0 : Value) (w : World) (K : Value → World → Prop) : enterV Tryz.prog tab51 Tryz.f51 [t0] w K = F51 t0 w K := by kernel_rfl

theorem F51_ok {t0 : Value} {w : World} {K : Value → World → Prop} (h : F51 t0 w K) : Ret Tryz.prog 51 #[t0] w K :=
  enter_sound (T := tab51) (args := [t0]) Tryz.func51 Tryz.call51 mixed (by kernel_rfl) (by rw [F51_eq]; exact h)

def F14J3 (J1 : List Value → List Nat → World → Prop) (K : Value → World → Prop) (ρ : Env) (ds : List Nat) (w : World) : Prop :=
  vBool (ρ 32) fun c_3 => if c_3 = true then
   (leaveV ds w fun W => K (.int .i64 36) W)
  else
  vBin (.int .i64) .sub (ρ 2) (.int .i64 1) fun v52 =>
  vNilP Tryz.prog (ρ 9) fun v53 =>
  vIA (.arr 32 6) v53 v52 fun v54 =>
  vFA (some 4) v54 fun v55 =>
  vLd .one v55 w fun v56 =>
  vBool v56 fun g => if g = true then
  (leaveV ds w fun W => K (.int .i64 0) W)
  else
  (vBin (.int .i64) .eql (ρ 3) (.int .i64 0) fun v59 =>
  vBool v59 fun c_4 => if c_4 = true then
   (leaveV ds w fun W => K (.int .i64 0) W)
  else
  vBin (.int .i64) .eql (ρ 3) (.int .i64 9) fun v63 =>
  vBool v63 fun g_2 => if g_2 = true then
  (vBin (.int .i64) .eql (ρ 2) (.int .i64 1) fun v66 =>
  vBool v66 fun c_5 => if c_5 = true then
   (leaveV ds w fun W => K (.int .i64 26) W)
  else
  J1 [(ρ 0), (ρ 2), (ρ 3), (ρ 5), (ρ 9)] ds w)
  else
  (J1 [(ρ 0), (ρ 2), (ρ 3), (ρ 5), (ρ 9)] ds w))

def F14J2 (J1 : List Value → List Nat → World → Prop) (K : Value → World → Prop) (ρ : Env) (ds : List Nat) (w : World) : Prop :=
  vBool (ρ 25) fun c_2 => if c_2 = true then
   (leaveV ds w fun W => K (.int .i64 31) W)
  else
  joinF [0, 2, 3, 5, 9, 32] (fun J3 =>
  vBin (.int .i64) .lss (ρ 2) (.int .i64 1) fun v34 =>
  vBool v34 fun g => if g = true then
  (J3 [(ρ 0), (ρ 2), (ρ 3), (ρ 5), (ρ 9), (.bool true)] ds w)
  else
  (vBin (.int .i64) .gtr (ρ 2) (.int .i64 32) fun v37 =>
  vBool v37 fun g_2 => if g_2 = true then
  (J3 [(ρ 0), (ρ 2), (ρ 3), (ρ 5), (ρ 9), (.bool true)] ds w)
  else
  (vBin (.int .i64) .sub (ρ 2) (.int .i64 1) fun v42 =>
  vNilP Tryz.prog (ρ 9) fun v43 =>
  vIA (.arr 32 6) v43 v42 fun v44 =>
  vFA (some 1) v44 fun v45 =>
  vLd .one v45 w fun v46 =>
  vBin (.int .i64) .eql v46 (.int .i64 0) fun v47 =>
  J3 [(ρ 0), (ρ 2), (ρ 3), (ρ 5), (ρ 9), v47] ds w)))
  (F14J3 J1 K)

def F14J1 (K : Value → World → Prop) (ρ : Env) (ds : List Nat) (w : World) : Prop :=
  vBin (.int .i64) .sub (ρ 2) (.int .i64 1) fun v70 =>
  vNilP Tryz.prog (ρ 9) fun v71 =>
  vIA (.arr 32 6) v71 v70 fun v72 =>
  vLd (.agg 6) v72 w fun v73 =>
  vAlloc Tryz.prog 77 w fun v12 w_5 =>
  vSt (some 6) v12 v73 w_5 fun w_6 =>
  vBin (.int .i64) .eql (ρ 3) (.int .i64 9) fun v75 =>
  vBool v75 fun c => if c = true then
   (vFA (some 2) v12 fun v76 =>
   vLd .one v76 w_6 fun v77 =>
   vFA (some 2) v12 fun v78 =>
   vSt (some 1) v78 (.int .i64 0) w_6 fun w_7 =>
   vLd (.agg 2) (ρ 5) w_7 fun v80 =>
   vLd (.agg 6) v12 w_7 fun v82 =>
   CallK Tryz.prog 54 #[(ρ 0), v80, (ρ 9), v82, (.int .i64 137)] w_7 fun v83 w_8 =>
   vLd (.agg 2) (ρ 5) w_8 fun v85 =>
   CallK Tryz.prog 55 #[(ρ 0), v85, v77] w_8 fun v87 w_9 =>
   leaveV ds w_9 fun W => K v87 W)
  else
  drawF w_6 fun S =>
  vNilP Tryz.prog (ρ 0) fun v90 =>
  vFA (some 0) v90 fun v91 =>
  vLdS S .one v91 fun v92 =>
  vFA (some 0) (ρ 5) fun v93 =>
  vLdS S .one v93 fun v94 =>
  vFA (some 2) v12 fun v96 =>
  vLdS S .one v96 fun v97 =>
  (CallK Tryz.prog 49 #[(ρ 0), v97] w_6.drew fun v98 w_10 =>
  S w_10 ∧ (vBuild Tryz.prog 60 [(0, (.int .i64 24)), (1, v98), (3, (ρ 3))] fun v100 =>
  (CallK Tryz.prog 18 #[v92, v94, v100, (.int .i64 0)] w_10 fun v101 w_11 =>
  S w_11 ∧ (vExt v101 0 fun v102 =>
  vExt v101 1 fun v103 =>
  vBin (.int .i64) .eql v103 (.int .i64 7) fun v105 =>
  vBool v105 fun c_2 => if c_2 = true then
   (leaveV ds w_11 fun W => K (.int .i64 10) W)
  else
  CallK Tryz.prog 51 #[v103] w_11 fun v107 w_12 =>
  leaveV ds w_12 fun W => K v107 W)) ∧
  (True))) ∧
  (True)

def F14 (t0 : Value) (t1 : Value) (t2 : Value) (t3 : Value) (w : World) (K : Value → World → Prop) : Prop :=
  vBox 36 t1 w fun v5 w =>
  vLd (.agg 2) v5 w fun v16 =>
  CallK Tryz.prog 46 #[t0, v16] w fun v17 w_2 =>
  vExt v17 0 fun v18 =>
  vExt v17 1 fun v19 =>
  vExt v17 2 fun v20 =>
  vAlloc Tryz.prog 77 w_2 fun v10 w_3 =>
  vSt (some 6) v10 v19 w_3 fun w_4 =>
  joinF [0, 2, 3, 5, 9] (fun J1 =>
  vBin (.int .i64) .neq v20 (.int .i64 0) fun v23 =>
  vBool v23 fun c => if c = true then
   (K v20 w_4)
  else
  joinF [0, 2, 3, 5, 9, 25] (fun J2 =>
  vBin (.int .i64) .lss t3 (.int .i64 0) fun v27 =>
  vBool v27 fun g => if g = true then
  (J2 [t0, t2, t3, v5, v18, (.bool true)] [] w_4)
  else
  (vBin (.int .i64) .gtr t3 (.int .i64 31) fun v30 =>
  J2 [t0, t2, t3, v5, v18, v30] [] w_4))
  (F14J2 J1 K))
  (F14J1 K)

def tab14 : Tab := { sel := [], plan := [(18, (.take 0 (.take 1 (.take 2 (.take 3 (.take 4 (.take 5 (.take 6 (.take 7 (.take 8 (.take 10 (.alt 9 (.take 11 (.alt 12 (.take 13 (.take 14 (.take 15 (.take 16 .done)))) .stop)) .stop))))))))))))], join := [(12, [0, 2, 3, 5, 9]), (7, [0, 2, 3, 5, 9, 32]), (5, [0, 2, 3, 5, 9, 25])] }

theorem F14_eq (t0 : Value) (t1 : Value) (t2 : Value) (t3 : Value) (w : World) (K : Value → World → Prop) : enterV Tryz.prog tab14 Tryz.f14 [t0, t1, t2, t3] w K = F14 t0 t1 t2 t3 w K := by kernel_rfl

theorem F14_ok {t0 : Value} {t1 : Value} {t2 : Value} {t3 : Value} {w : World} {K : Value → World → Prop} (h : F14 t0 t1 t2 t3 w K) : Ret Tryz.prog 14 #[t0, t1, t2, t3] w K :=
  enter_sound (T := tab14) (args := [t0, t1, t2, t3]) Tryz.func14 Tryz.call14 mixed (by kernel_rfl) (by rw [F14_eq]; exact h)

def F16 (t0 : Value) (t1 : Value) (w : World) (K : Value → World → Prop) : Prop :=
  vBox 36 t1 w fun v3 w =>
  vLd (.agg 2) v3 w fun v13 =>
  CallK Tryz.prog 46 #[t0, v13] w fun v14 w_2 =>
  vExt v14 0 fun v15 =>
  vExt v14 1 fun v16 =>
  vExt v14 2 fun v17 =>
  vAlloc Tryz.prog 77 w_2 fun v7 w_3 =>
  vSt (some 6) v7 v16 w_3 fun w_4 =>
  vBin (.int .i64) .neq v17 (.int .i64 0) fun v19 =>
  vBool v19 fun c => if c = true then
   (K (.tuple #[(.int .i64 0), v17]) w_4)
  else
  drawF w_4 fun S =>
  vNilP Tryz.prog t0 fun v23 =>
  vFA (some 0) v23 fun v24 =>
  vLdS S .one v24 fun v25 =>
  vFA (some 0) v3 fun v26 =>
  vLdS S .one v26 fun v27 =>
  vBuild Tryz.prog 60 [(0, (.int .i64 25))] fun v28 =>
  (CallK Tryz.prog 18 #[v25, v27, v28, (.int .i64 0)] w_4.drew fun v29 w_5 =>
  S w_5 ∧ (vExt v29 0 fun v30 =>
  vExt v29 1 fun v31 =>
  (vAlloc Tryz.prog 52 w_5 fun v9 w_6 =>
  S w_6 ∧ ((vSt (some 8) v9 v30 w_6 fun w_7 =>
  (vFA (some 0) v9 fun v32 =>
  vLd .one v32 w_7 fun v33 =>
  K (.tuple #[v33, v31]) w_7)) ∧
  (True))) ∧
  (True))) ∧
  ((vAlloc Tryz.prog 52 w_4.drew fun v9_2 w_8 =>
  S w_8 ∧ ((CallK Tryz.prog 18 #[v25, v27, v28, (.int .i64 0)] w_8 fun v29_2 w_9 =>
  S w_9 ∧ (vExt v29_2 0 fun v30_2 =>
  vExt v29_2 1 fun v31_2 =>
  (vSt (some 8) v9_2 v30_2 w_9 fun w_10 =>
  (vFA (some 0) v9_2 fun v32_2 =>
  vLd .one v32_2 w_10 fun v33_2 =>
  K (.tuple #[v33_2, v31_2]) w_10)) ∧
  (True))) ∧
  (True))) ∧
  (True))

def tab16 : Tab := { sel := [], plan := [(4, (.take 0 (.take 1 (.take 2 (.take 3 (.take 4 (.take 5 (.take 6 (.alt 7 (.take 8 (.take 9 (.take 10 (.alt 11 (.alt 12 (.take 13 .done) .stop) .stop)))) (.alt 11 (.alt 7 (.take 8 (.take 9 (.take 10 (.alt 12 (.take 13 .done) .stop)))) .stop) .stop))))))))))], join := [] }

theorem F16_eq (t0 : Value) (t1 : Value) (w : World) (K : Value → World → Prop) : enterV Tryz.prog tab16 Tryz.f16 [t0, t1] w K = F16 t0 t1 w K := by kernel_rfl

theorem F16_ok {t0 : Value} {t1 : Value} {w : World} {K : Value → World → Prop} (h : F16 t0 t1 w K) : Ret Tryz.prog 16 #[t0, t1] w K :=
  enter_sound (T := tab16) (args := [t0, t1]) Tryz.func16 Tryz.call16 mixed (by kernel_rfl) (by rw [F16_eq]; exact h)

def F85R1a (r : Option Nat) (ρ : Env) (w : World) (Q : QV) : Prop :=
  vAlloc Tryz.prog 77 w fun v5 w_6 =>
  vSt (some 6) v5 (ρ 13) w_6 fun w_7 =>
  Q .normal (put (put ρ (some 4) (ρ 12)) (some 5) v5) [] w_7

def F85R1b (r : Option Nat) (ρ : Env) (w : World) (Q1 : Exit → World → Prop) : Prop :=
  vBin (.int .i64) .lss (ρ 4) (.int .i64 32) fun v15 =>
  vBool v15 fun c => if c = true then
   (drawF w fun S =>
   vLdS S .one (ρ 3) fun v16 =>
   vLdS S (.agg 6) (ρ 5) fun v18 =>
   vNilP Tryz.prog v16 fun v19 =>
   vIA (.arr 32 6) v19 (ρ 4) fun v20 =>
   (vSt (some 6) v20 v18 w.drew fun w_6 =>
   (Q1 .normal w_6)) ∧
   (True))
  else
  Q1 .normal w

def F85L1 (K : Value → World → Prop) (ρ : Env) (ds : List Nat) (w : World) (ag1 : List Value → List Nat → World → Prop) : Prop :=
  vBin (.int .i64) .lss (ρ 21) (.int .i64 32) fun v22 =>
  vBool v22 fun c_2 => if c_2 = true then
   (vLd .one (ρ 3) w fun v24 =>
  vBin (.int .i64) .add (ρ 21) (.int .i64 1) fun v27 =>
  vNilP Tryz.prog v24 fun v28 =>
  vIA (.arr 32 6) v28 (ρ 21) fun v29 =>
  vFA (some 0) v29 fun v30 =>
  vSt (some 1) v30 v27 w fun w_8 =>
  vBin (.int .i64) .add (ρ 21) (.int .i64 1) fun v31 =>
  ag1 [(ρ 3), v31] ds w_8)
  else
  vLd .one (ρ 3) w fun v32 =>
  leaveV ds w fun W => K v32 W

def F85 (t0 : Value) (w : World) (K : Value → World → Prop) : Prop :=
  vBuild Tryz.prog 310 [] fun v7 =>
  vBox 310 v7 w fun v8 w =>
  vAlloc Tryz.prog 137 w fun v3 w_2 =>
  vSt (some 1) v3 v8 w_2 fun w_3 =>
  CallK Tryz.prog 110 #[] w_3 fun v9 w_4 =>
  CallK Tryz.prog 160 #[v9, t0] w_4 fun v11 w_5 =>
  rangeF Tryz.prog none [3] [v3] [12, 13] F85R1a F85R1b v11 [] w_5
  (fun ds w_7 => loopF [3, 21] [v3, (.int .i64 0)] ds w_7 (F85L1 K))
  (fun _ _ => False)
  []

def tab85 : Tab := { sel := [(3, [3]), (8, [3, 21])], plan := [(6, (.take 0 (.take 1 (.take 2 (.take 3 (.take 4 (.alt 5 .done .stop)))))))], join := [] }

theorem F85_eq (t0 : Value) (w : World) (K : Value → World → Prop) : enterV Tryz.prog tab85 Tryz.f85 [t0] w K = F85 t0 w K := by kernel_rfl

theorem F85_ok {t0 : Value} {w : World} {K : Value → World → Prop} (h : F85 t0 w K) : Ret Tryz.prog 85 #[t0] w K :=
  enter_sound (T := tab85) (args := [t0]) Tryz.func85 Tryz.call85 mixed (by kernel_rfl) (by rw [F85_eq]; exact h)

def F110 (w : World) (K : Value → World → Prop) : Prop :=
  vAlloc Tryz.prog 230 w fun v0 w =>
  vBuild Tryz.prog 230 [(0, (.int .i64 5)), (1, (.func (.func 183) #[] #[])), (2, (.func (.func 184) #[] #[]))] fun v1 =>
  vSt (some 3) v0 v1 w fun w_2 =>
  vLd (.agg 3) v0 w_2 fun r => K r w_2

def tab110 : Tab := { sel := [], plan := [], join := [] }

theorem F110_eq (w : World) (K : Value → World → Prop) : enterV Tryz.prog tab110 Tryz.f110 [] w K = F110 w K := by kernel_rfl

theorem F110_ok {w : World} {K : Value → World → Prop} (h : F110 w K) : Ret Tryz.prog 110 #[] w K :=
  enter_sound (T := tab110) (args := []) Tryz.func110 Tryz.call110 mixed (by kernel_rfl) (by rw [F110_eq]; exact h)

def F160 (t0 : Value) (t1 : Value) (w : World) (K : Value → World → Prop) : Prop :=
  vBox 230 t0 w fun v2 w =>
  vBox 9 t1 w fun v3 w_2 =>
  K (.func (.func 234) #[] #[v3, v2]) w_2

def tab160 : Tab := { sel := [], plan := [], join := [] }

theorem F160_eq (t0 : Value) (t1 : Value) (w : World) (K : Value → World → Prop) : enterV Tryz.prog tab160 Tryz.f160 [t0, t1] w K = F160 t0 t1 w K := by kernel_rfl

theorem F160_ok {t0 : Value} {t1 : Value} {w : World} {K : Value → World → Prop} (h : F160 t0 t1 w K) : Ret Tryz.prog 160 #[t0, t1] w K :=
  enter_sound (T := tab160) (args := [t0, t1]) Tryz.func160 Tryz.call160 mixed (by kernel_rfl) (by rw [F160_eq]; exact h)

def F183 (t0 : Value) (w : World) (K : Value → World → Prop) : Prop :=
  vAlloc Tryz.prog 77 w fun v2 w =>
  drawF w fun S =>
  vIA (.slice 1) t0 (.int .i64 0) fun v4 =>
  vLdS S .one v4 fun v5 =>
  vIA (.slice 1) t0 (.int .i64 1) fun v7 =>
  vLdS S .one v7 fun v8 =>
  vIA (.slice 1) t0 (.int .i64 2) fun v10 =>
  vLdS S .one v10 fun v11 =>
  vIA (.slice 1) t0 (.int .i64 3) fun v13 =>
  vLdS S .one v13 fun v14 =>
  vBin (.int .i64) .eql v14 (.int .i64 1) fun v15 =>
  vIA (.slice 1) t0 (.int .i64 4) fun v17 =>
  vLdS S .one v17 fun v18 =>
  vBuild Tryz.prog 77 [(2, v5), (1, v8), (3, v11), (4, v15), (5, v18)] fun v19 =>
  (vSt (some 6) v2 v19 w.drew fun w_2 =>
  (vLd (.agg 6) v2 w_2 fun r => K r w_2)) ∧
  (True)

def tab183 : Tab := { sel := [], plan := [(1, (.take 0 (.take 1 (.take 2 (.take 3 (.take 4 (.take 5 (.take 6 (.take 7 (.take 8 (.take 9 (.take 10 (.take 11 (.take 12 (.take 13 (.take 14 (.take 15 (.take 16 (.alt 17 .done .stop)))))))))))))))))))], join := [] }

theorem F183_eq (t0 : Value) (w : World) (K : Value → World → Prop) : enterV Tryz.prog tab183 Tryz.f183 [t0] w K = F183 t0 w K := by kernel_rfl

theorem F183_ok {t0 : Value} {w : World} {K : Value → World → Prop} (h : F183 t0 w K) : Ret Tryz.prog 183 #[t0] w K :=
  enter_sound (T := tab183) (args := [t0]) Tryz.func183 Tryz.call183 mixed (by kernel_rfl) (by rw [F183_eq]; exact h)

def F234L1 (K : Value → World → Prop) (ρ : Env) (ds : List Nat) (w : World) (ag1 : List Value → List Nat → World → Prop) : Prop :=
  vLen (.slice 1) (ρ 4) fun v9 =>
  vFA (some 0) (ρ 2) fun v10 =>
  vLd .one v10 w fun v11 =>
  vBin (.int .i64) .geq v9 v11 fun v12 =>
  vBool v12 fun c => if c = true then
   (drawF w fun S =>
  vFA (some 1) (ρ 2) fun v17 =>
  vLdS S .one v17 fun v18 =>
  vFA (some 0) (ρ 2) fun v20 =>
  vLdS S .one v20 fun v21 =>
  vSlice (.slice 1) (ρ 4) none (some v21) fun v22 =>
  (vCallV Tryz.prog v18 [v22] w.drew fun v23 w_2 =>
  S w_2 ∧ ((vCallV Tryz.prog (ρ 0) [(ρ 5), v23] w_2 fun v24 w_3 =>
  S w_3 ∧ (vUn .not v24 fun v25 =>
  vBool v25 fun c_2 => if c_2 = true then
   (leaveV ds w_3 fun W => K (.tuple #[]) W)
  else
  vFA (some 0) (ρ 2) fun v27 =>
  vLd .one v27 w_3 fun v28 =>
  vSlice (.slice 1) (ρ 4) (some v28) none fun v29 =>
  vBin (.int .i64) .add (ρ 5) (.int .i64 1) fun v14 =>
  ag1 [(ρ 0), (ρ 2), v29, v14] ds w_3)) ∧
  (True))) ∧
  (True))
  else
  leaveV ds w fun W => K (.tuple #[]) W

def F234 (t0 : Value) (t1 : Value) (t2 : Value) (w : World) (K : Value → World → Prop) : Prop :=
  vLd .one t1 w fun v6 =>
  CallK Tryz.prog 182 #[v6] w fun v7 w =>
  loopF [0, 2, 4, 5] [t0, t2, v7, (.int .i64 0)] [] w (F234L1 K)

def tab234 : Tab := { sel := [(2, [0, 2, 4, 5])], plan := [(4, (.take 0 (.take 1 (.take 2 (.take 3 (.take 4 (.take 5 (.take 6 (.take 7 (.alt 8 (.alt 9 (.take 10 .done) .stop) .stop))))))))))], join := [] }

theorem F234_eq (t0 : Value) (t1 : Value) (t2 : Value) (w : World) (K : Value → World → Prop) : enterV Tryz.prog tab234 Tryz.f234 [t0, t1, t2] w K = F234 t0 t1 t2 w K := by kernel_rfl

theorem F234_ok {t0 : Value} {t1 : Value} {t2 : Value} {w : World} {K : Value → World → Prop} (h : F234 t0 t1 t2 w K) : Ret Tryz.prog 234 #[t0, t1, t2] w K :=
  enter_sound (T := tab234) (args := [t0, t1, t2]) Tryz.func234 Tryz.call234 mixed (by kernel_rfl) (by rw [F234_eq]; exact h)

def F109 (t0 : Value) (w : World) (K : Value → World → Prop) : Prop :=
  vPtr .eql t0 (.pointer none) w fun v4 =>
  vBool v4 fun c => if c = true then
   (K (.int .i64 0) w)
  else
  vNilP Tryz.prog t0 fun v6 =>
  vFA (some 2) v6 fun v7 =>
  vLd .one v7 w fun v8 =>
  K v8 w

def tab109 : Tab := { sel := [], plan := [], join := [] }

theorem F109_eq (t0 : Value) (w : World) (K : Value → World → Prop) : enterV Tryz.prog tab109 Tryz.f109 [t0] w K = F109 t0 w K := by kernel_rfl

theorem F109_ok {t0 : Value} {w : World} {K : Value → World → Prop} (h : F109 t0 w K) : Ret Tryz.prog 109 #[t0] w K :=
  enter_sound (T := tab109) (args := [t0]) Tryz.func109 Tryz.call109 mixed (by kernel_rfl) (by rw [F109_eq]; exact h)

def F4J6 (K : Value → World → Prop) (ag2 : List Value → List Nat → World → Prop) (ρ : Env) (ds : List Nat) (w : World) : Prop :=
  vBool (ρ 85) fun c_8 => if c_8 = true then
   (drawF w fun S_3 =>
   vNilP Tryz.prog (ρ 5) fun v88 =>
   vFA (some 2) v88 fun v89 =>
   vLdS S_3 .one v89 fun v90 =>
   vLdS S_3 (.agg 2) (ρ 8) fun v91 =>
   (CallK Tryz.prog 16 #[v90, v91] w.drew fun v92 w_11 =>
   S_3 w_11 ∧ (vExt v92 0 fun v93 =>
   vExt v92 1 fun v94 =>
   vBin (.int .i64) .neq v94 (.int .i64 0) fun v96 =>
   vBool v96 fun g_2 => if g_2 = true then
   (leaveV ds w_11 fun W => K (.bool false) W)
   else
   (vIA (.slice 1) (ρ 11) (.int .i64 0) fun v100 =>
   vLd .one v100 w_11 fun v101 =>
   vBin (.int .i64) .neq v93 v101 fun v102 =>
   vBool v102 fun c_9 => if c_9 = true then
    (leaveV ds w_11 fun W => K (.bool false) W)
   else
   vSlice (.slice 1) (ρ 11) (some (.int .i64 1)) none fun v105 =>
   vBin (.int .i64) .add (ρ 44) (.int .i64 1) fun v106 =>
  ag2 [(ρ 1), (ρ 5), (ρ 7), (ρ 8), v105, (ρ 42), (ρ 43), v106] ds w_11))) ∧
   (True))
  else
  vBin (.int .i64) .add (ρ 44) (.int .i64 1) fun v106_2 =>
  ag2 [(ρ 1), (ρ 5), (ρ 7), (ρ 8), (ρ 11), (ρ 42), (ρ 43), v106_2] ds w

def F4J4 (K : Value → World → Prop) (ag2 : List Value → List Nat → World → Prop) (ρ : Env) (ds : List Nat) (w : World) : Prop :=
  drawF w fun S_2 =>
  vNilP Tryz.prog (ρ 5) fun v59 =>
  vFA (some 2) v59 fun v60 =>
  vLdS S_2 .one v60 fun v61 =>
  vLdS S_2 (.agg 2) (ρ 7) fun v62 =>
  (CallK Tryz.prog 14 #[v61, v62, (.int .i64 2), (ρ 13)] w.drew fun v64 w_8 =>
  S_2 w_8 ∧ (vLen (.slice 1) (ρ 11) fun v66 =>
  vBin (.int .i64) .eql v66 (.int .i64 8) fun v67 =>
  vBool v67 fun c_5 => if c_5 = true then
   (vBin (.int .i64) .neq v64 (.int .i64 10) fun v69 =>
   vBool v69 fun c_6 => if c_6 = true then
    (leaveV ds w_8 fun W => K (.bool false) W)
   else
   joinF [1, 5, 7, 8, 11, 42, 43, 44, 85] (fun J6 =>
  vLen (.slice 1) (ρ 1) fun v78 =>
  vBin (.int .i64) .lss (ρ 12) v78 fun v79 =>
  vBool v79 fun g => if g = true then
  (vIA (.slice 1) (ρ 1) (ρ 12) fun v83 =>
  vLd .one v83 w_8 fun v84 =>
  J6 [(ρ 1), (ρ 5), (ρ 7), (ρ 8), (ρ 11), (ρ 42), (ρ 43), (ρ 44), v84] ds w_8)
  else
  (J6 [(ρ 1), (ρ 5), (ρ 7), (ρ 8), (ρ 11), (ρ 42), (ρ 43), (ρ 44), (.bool false)] ds w_8))
  (F4J6 K ag2))
  else
  vBin (.int .i64) .neq v64 (.int .i64 0) fun v71 =>
  vBool v71 fun c_7 => if c_7 = true then
   (leaveV ds w_8 fun W => K (.bool false) W)
  else
  vBuildSlice Tryz.prog 42 1 [(0, (ρ 13))] w_8 fun v74 w_9 =>
  vAppend Tryz.prog 42 42 (ρ 11) v74 w_9 fun v75 w_10 =>
  joinF [1, 5, 7, 8, 11, 42, 43, 44, 85] (fun J6 =>
  vLen (.slice 1) (ρ 1) fun v78_2 =>
  vBin (.int .i64) .lss (ρ 12) v78_2 fun v79_2 =>
  vBool v79_2 fun g_2 => if g_2 = true then
  (vIA (.slice 1) (ρ 1) (ρ 12) fun v83_2 =>
  vLd .one v83_2 w_10 fun v84_2 =>
  J6 [(ρ 1), (ρ 5), (ρ 7), (ρ 8), v75, (ρ 42), (ρ 43), (ρ 44), v84_2] ds w_10)
  else
  (J6 [(ρ 1), (ρ 5), (ρ 7), (ρ 8), v75, (ρ 42), (ρ 43), (ρ 44), (.bool false)] ds w_10))
  (F4J6 K ag2))) ∧
  (True)

def F4L2 (J1 : List Value → List Nat → World → Prop) (K : Value → World → Prop) (ρ : Env) (ds : List Nat) (w : World) (ag2 : List Value → List Nat → World → Prop) : Prop :=
  vBin (.int .i64) .lss (ρ 44) (ρ 43) fun v45 =>
  vBool v45 fun c_3 => if c_3 = true then
   (vIA (.slice 1) (ρ 42) (ρ 44) fun v47 =>
  vLd .one v47 w fun v48 =>
  vBin (.int .i64) .geq (ρ 44) (.int .i64 40) fun v50 =>
  vBool v50 fun c_4 => if c_4 = true then
   (J1 [(ρ 5), (ρ 8), (ρ 11)] ds w)
  else
  vConv (.int .u64) v48 fun v52 =>
  vBin (.int .u64) .rem v52 (.int .u64 31) fun v53 =>
  vConv (.int .i64) v53 fun v54 =>
  vBin (.int .i64) .add (.int .i64 1) v54 fun v55 =>
  joinF [1, 5, 7, 8, 11, 12, 13, 42, 43, 44] (fun J4 =>
  vBin (.int .i64) .eql v55 (.int .i64 9) fun v57 =>
  vBool v57 fun c_5 => if c_5 = true then
   (J4 [(ρ 1), (ρ 5), (ρ 7), (ρ 8), (ρ 11), (ρ 44), (.int .i64 10), (ρ 42), (ρ 43), (ρ 44)] ds w)
  else
  J4 [(ρ 1), (ρ 5), (ρ 7), (ρ 8), (ρ 11), (ρ 44), v55, (ρ 42), (ρ 43), (ρ 44)] ds w)
  (F4J4 K ag2))
  else
  J1 [(ρ 5), (ρ 8), (ρ 11)] ds w

def F4L1 (K : Value → World → Prop) (ρ : Env) (ds : List Nat) (w : World) (ag1 : List Value → List Nat → World → Prop) : Prop :=
  vBin (.int .i64) .lss (ρ 109) (ρ 108) fun v110 =>
  vBool v110 fun c_3 => if c_3 = true then
   (vIA (.slice 1) (ρ 107) (ρ 109) fun v111 =>
  vLd .one v111 w fun v112 =>
  drawF w fun S_2 =>
  vNilP Tryz.prog (ρ 5) fun v115 =>
  vFA (some 2) v115 fun v116 =>
  vLdS S_2 .one v116 fun v117 =>
  vLdS S_2 (.agg 2) (ρ 8) fun v118 =>
  (CallK Tryz.prog 16 #[v117, v118] w.drew fun v119 w_8 =>
  S_2 w_8 ∧ (vExt v119 0 fun v120 =>
  vExt v119 1 fun v121 =>
  vBin (.int .i64) .neq v121 (.int .i64 0) fun v123 =>
  vBool v123 fun g => if g = true then
  (leaveV ds w_8 fun W => K (.bool false) W)
  else
  (vBin (.int .i64) .neq v120 v112 fun v127 =>
  vBool v127 fun c_4 => if c_4 = true then
   (leaveV ds w_8 fun W => K (.bool false) W)
  else
  vBin (.int .i64) .add (ρ 109) (.int .i64 1) fun v129 =>
  ag1 [(ρ 5), (ρ 8), (ρ 107), (ρ 108), v129] ds w_8))) ∧
  (True))
  else
  drawF w fun S_3 =>
  vNilP Tryz.prog (ρ 5) fun v132 =>
  vFA (some 2) v132 fun v133 =>
  vLdS S_3 .one v133 fun v134 =>
  vLdS S_3 (.agg 2) (ρ 8) fun v135 =>
  (CallK Tryz.prog 16 #[v134, v135] w.drew fun v136 w_9 =>
  S_3 w_9 ∧ (vExt v136 0 fun v137 =>
  vExt v136 1 fun v138 =>
  vBin (.int .i64) .eql v138 (.int .i64 10) fun v140 =>
  leaveV ds w_9 fun W => K v140 W)) ∧
  (True)

def F4J1 (K : Value → World → Prop) (ρ : Env) (ds : List Nat) (w : World) : Prop :=
  vLen (.slice 1) (ρ 11) fun v108 =>
  loopF [5, 8, 107, 108, 109] [(ρ 5), (ρ 8), (ρ 11), v108, (.int .i64 0)] ds w (F4L1 K)

def F4 (t0 : Value) (t1 : Value) (w : World) (K : Value → World → Prop) : Prop :=
  CallK Tryz.prog 11 #[] w fun v23 w =>
  vUn .not v23 fun v24 =>
  vBool v24 fun c => if c = true then
   (K (.bool false) w)
  else
  CallK Tryz.prog 12 #[] w fun v26 w_2 =>
  vExt v26 0 fun v27 =>
  vExt v26 1 fun v28 =>
  vBuild Tryz.prog 36 [(0, (.int .i64 30)), (1, (.int .i64 800))] fun v29 =>
  vAlloc Tryz.prog 36 w_2 fun v7 w_3 =>
  vSt (some 2) v7 v29 w_3 fun w_4 =>
  vBuild Tryz.prog 36 [(0, (.int .i64 801))] fun v30 =>
  vAlloc Tryz.prog 36 w_4 fun v8 w_5 =>
  vSt (some 2) v8 v30 w_5 fun w_6 =>
  drawF w_6 fun S =>
  vNilP Tryz.prog v27 fun v33 =>
  vFA (some 2) v33 fun v34 =>
  vLdS S .one v34 fun v35 =>
  vLdS S (.agg 2) v7 fun v36 =>
  (CallK Tryz.prog 13 #[v35, v36] w_6.drew fun v37 w_7 =>
  S w_7 ∧ (vExt v37 0 fun v38 =>
  vExt v37 1 fun v39 =>
  vBin (.int .i64) .neq v39 (.int .i64 0) fun v41 =>
  vBool v41 fun c_2 => if c_2 = true then
   (K (.bool false) w_7)
  else
  joinF [5, 8, 11] (fun J1 =>
  vLen (.slice 1) t0 fun v43 =>
  loopF [1, 5, 7, 8, 11, 42, 43, 44] [t1, v27, v7, v8, (.slice none 0 0), t0, v43, (.int .i64 0)] [] w_7 (F4L2 J1 K))
  (F4J1 K))) ∧
  (True)

def tab4 : Tab := { sel := [(31, [5, 8, 107, 108, 109]), (11, [1, 5, 7, 8, 11, 42, 43, 44])], plan := [(6, (.take 0 (.take 1 (.take 2 (.take 3 (.take 4 (.alt 5 (.take 6 (.take 7 (.take 8 (.take 9 (.take 10 .done))))) .stop))))))), (17, (.take 0 (.take 1 (.take 2 (.take 3 (.take 4 (.take 5 (.alt 6 (.take 7 .done) .stop)))))))), (25, (.take 0 (.take 1 (.take 2 (.take 3 (.take 4 (.alt 5 (.take 6 (.take 7 (.take 8 (.take 9 (.take 10 .done))))) .stop))))))), (33, (.take 0 (.take 1 (.take 2 (.take 3 (.take 4 (.alt 5 (.take 6 (.take 7 (.take 8 (.take 9 (.take 10 .done))))) .stop))))))), (37, (.take 0 (.take 1 (.take 2 (.take 3 (.take 4 (.alt 5 (.take 6 (.take 7 (.take 8 (.take 9 (.take 10 .done))))) .stop)))))))], join := [(30, [5, 8, 11]), (25, [1, 5, 7, 8, 11, 42, 43, 44, 85]), (17, [1, 5, 7, 8, 11, 12, 13, 42, 43, 44])] }

theorem F4_eq (t0 : Value) (t1 : Value) (w : World) (K : Value → World → Prop) : enterV Tryz.prog tab4 Tryz.f4 [t0, t1] w K = F4 t0 t1 w K := by kernel_rfl

theorem F4_ok {t0 : Value} {t1 : Value} {w : World} {K : Value → World → Prop} (h : F4 t0 t1 w K) : Ret Tryz.prog 4 #[t0, t1] w K :=
  enter_sound (T := tab4) (args := [t0, t1]) Tryz.func4 Tryz.call4 mixed (by kernel_rfl) (by rw [F4_eq]; exact h)

end Go.Proofs.YtdkklhnleppfcaaGreat
