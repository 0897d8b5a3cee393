import Derived.Test.YtmaecpbkbkncgaaDoorVe
import Derived.Test.YtmaecpbkbkncgaaDoorProg
set_option linter.unusedVariables false
namespace Go.Proofs.YtmaecpbkbkncgaaDoor
open Go Go.V
theorem mixed : Tryd.prog.follows .mixedOrders = true := by kernel_rfl
set_option maxRecDepth 100000

def F3J2 (K : Value → World → Prop) (ρ : Env) (ds : List Nat) (w : World) : Prop :=
  vLen .string (ρ 0) fun v93 =>
  CallK Tryd.prog 15 #[(ρ 5), (.int .i64 0), v93] w fun v94 w_11 =>
  vExt v94 0 fun v95 =>
  vExt v94 1 fun v96 =>
  vLen .string (ρ 0) fun v100 =>
  CallK Tryd.prog 15 #[(ρ 7), (.int .i64 0), v100] w_11 fun v101 w_12 =>
  vExt v101 0 fun v102 =>
  vExt v101 1 fun v103 =>
  vLd (.agg 17) (ρ 9) w_12 fun v104 =>
  vLd (.agg 17) (ρ 11) w_12 fun v105 =>
  vAggEq Tryd.prog 25 .eql v104 v105 fun v106 =>
  vBool v106 fun g => if g = true then
  (vBin .string .eql v95 v102 fun v110 =>
  leaveV ds w_12 fun W => K v110 W)
  else
  (leaveV ds w_12 fun W => K (.bool false) W)

def F3J1 (K : Value → World → Prop) (ρ : Env) (ds : List Nat) (w : World) : Prop :=
  vBool (ρ 54) fun c_3 => if c_3 = true then
   (leaveV ds w fun W => K (.bool false) W)
  else
  vLd (.agg 17) (ρ 3) w fun v55 =>
  vAlloc Tryd.prog 25 w fun v9 w_5 =>
  vSt (some 17) v9 v55 w_5 fun w_6 =>
  vBuild Tryd.prog 35 [(0, (ρ 5))] fun v57 =>
  vIface true 35 v57 fun v58 =>
  CallK Tryd.prog 13 #[v9, v58] w_6 fun v59 w_7 =>
  vLd (.agg 17) (ρ 3) w_7 fun v62 =>
  CallK Tryd.prog 14 #[(ρ 7), v62, (.int .i64 1)] w_7 fun v63 w_8 =>
  vExt v63 0 fun v64 =>
  vExt v63 1 fun v65 =>
  vExt v63 2 fun v66 =>
  vAlloc Tryd.prog 25 w_8 fun v11 w_9 =>
  vSt (some 17) v11 v64 w_9 fun w_10 =>
  joinF [0, 5, 7, 9, 11] (fun J2 =>
  vBin (.int .i64) .eql v59 (.int .i64 0) fun v68 =>
  vBool v68 fun g => if g = true then
  (vBin (.int .i64) .neq v65 (.int .i64 1) fun v71 =>
  vBool v71 fun g_2 => if g_2 = true then
  (leaveV ds w_10 fun W => K (.bool false) W)
  else
  (vBin (.int .i64) .neq v66 (.int .i64 0) fun v74 =>
  vBool v74 fun g_3 => if g_3 = true then
  (leaveV ds w_10 fun W => K (.bool false) W)
  else
  (vBin (.int .i64) .neq v59 (.int .i64 0) fun v79 =>
  vBool v79 fun g_4 => if g_4 = true then
  (vBin (.int .i64) .neq v65 (.int .i64 0) fun v82 =>
  vBool v82 fun g_5 => if g_5 = true then
  (leaveV ds w_10 fun W => K (.bool false) W)
  else
  (vBin (.int .i64) .neq v66 v59 fun v86 =>
  vBool v86 fun c_4 => if c_4 = true then
   (leaveV ds w_10 fun W => K (.bool false) W)
  else
  J2 [(ρ 0), (ρ 5), (ρ 7), v9, v11] ds w_10))
  else
  (J2 [(ρ 0), (ρ 5), (ρ 7), v9, v11] ds w_10))))
  else
  (vBin (.int .i64) .neq v59 (.int .i64 0) fun v79_2 =>
  vBool v79_2 fun g_6 => if g_6 = true then
  (vBin (.int .i64) .neq v65 (.int .i64 0) fun v82_2 =>
  vBool v82_2 fun g_7 => if g_7 = true then
  (leaveV ds w_10 fun W => K (.bool false) W)
  else
  (vBin (.int .i64) .neq v66 v59 fun v86_2 =>
  vBool v86_2 fun c_5 => if c_5 = true then
   (leaveV ds w_10 fun W => K (.bool false) W)
  else
  J2 [(ρ 0), (ρ 5), (ρ 7), v9, v11] ds w_10))
  else
  (J2 [(ρ 0), (ρ 5), (ρ 7), v9, v11] ds w_10)))
  (F3J2 K)

/-- gatehouse/gatehouselaw06.CpuSteps -/
def F3 (t0 : Value) (t1 : Value) (w : World) (K : Value → World → Prop) : Prop :=
  vBox 25 t1 w fun v3 w =>
  CallK Tryd.prog 10 #[] w fun v18 w_2 =>
  vUn .not v18 fun v19 =>
  vBool v19 fun c => if c = true then
   (K (.bool false) w_2)
  else
  vLen .string t0 fun v21 =>
  vBin (.int .i64) .gtr v21 (.int .i64 4096) fun v22 =>
  vBool v22 fun c_2 => if c_2 = true then
   (K (.bool true) w_2)
  else
  vLen .string t0 fun v25 =>
  CallK Tryd.prog 11 #[v25] w_2 fun v26 w_3 =>
  vExt v26 0 fun v27 =>
  vExt v26 1 fun v28 =>
  vLen .string t0 fun v31 =>
  CallK Tryd.prog 11 #[v31] w_3 fun v32 w_4 =>
  vExt v32 0 fun v33 =>
  vExt v32 1 fun v34 =>
  joinF [0, 3, 5, 7, 54] (fun J1 =>
  vBin (.int .i64) .neq v28 (.int .i64 0) fun v36 =>
  vBool v36 fun g => if g = true then
  (J1 [t0, v3, v27, v33, (.bool true)] [] w_4)
  else
  (vBin (.int .i64) .neq v34 (.int .i64 0) fun v39 =>
  vBool v39 fun g_2 => if g_2 = true then
  (J1 [t0, v3, v27, v33, (.bool true)] [] w_4)
  else
  (vBuildSlice Tryd.prog 63 1 [(0, t0)] w_4 fun v44 w_5 =>
  CallK Tryd.prog 12 #[v27, (.int .i64 0), v44] w_5 fun v45 w_6 =>
  vBin (.int .i64) .neq v45 (.int .i64 0) fun v46 =>
  vBool v46 fun g_3 => if g_3 = true then
  (J1 [t0, v3, v27, v33, (.bool true)] [] w_6)
  else
  (vBuildSlice Tryd.prog 63 1 [(0, t0)] w_6 fun v51 w_7 =>
  CallK Tryd.prog 12 #[v33, (.int .i64 0), v51] w_7 fun v52 w_8 =>
  vBin (.int .i64) .neq v52 (.int .i64 0) fun v53 =>
  J1 [t0, v3, v27, v33, v53] [] w_8))))
  (F3J1 K)

def tab3 : Tab := { sel := [], plan := [], join := [(14, [0, 5, 7, 9, 11]), (8, [0, 3, 5, 7, 54])] }

theorem F3_eq (t0 : Value) (t1 : Value) (w : World) (K : Value → World → Prop) : enterV Tryd.prog tab3 Tryd.f3 [t0, t1] w K = F3 t0 t1 w K := by kernel_rfl

theorem F3_ok {t0 : Value} {t1 : Value} {w : World} {K : Value → World → Prop} (h : F3 t0 t1 w K) : Ret Tryd.prog 3 #[t0, t1] w K :=
  enter_sound (T := tab3) (args := [t0, t1]) Tryd.func3 Tryd.call3 mixed (by kernel_rfl) (by rw [F3_eq]; exact h)

def F4J1 (K : Value → World → Prop) (ρ : Env) (ds : List Nat) (w : World) : Prop :=
  drawF w fun S =>
  vLdS S (.agg 17) (ρ 8) fun v45 =>
  vLdS S (.agg 17) (ρ 11) fun v46 =>
  vAggEq Tryd.prog 25 .eql v45 v46 fun v47 =>
  vBool v47 fun g => if g = true then
  (vBin (.int .i64) .eql (ρ 9) (ρ 13) fun v51 =>
  vBool v51 fun g_2 => if g_2 = true then
  (vBin (.int .i64) .eql (ρ 10) (ρ 14) fun v56 =>
  vBool v56 fun g_3 => if g_3 = true then
  ((CallK Tryd.prog 18 #[(ρ 7)] w.drew fun v60 w_7 =>
  S w_7 ∧ ((vB2S (ρ 12) w_7 fun v62 =>
  S w_7 ∧ (vBin .string .eql v60 v62 fun v63 =>
  leaveV ds w_7 fun W => K v63 W)) ∧
  (True))) ∧
  ((vB2S (ρ 12) w.drew fun v62_2 =>
  S w.drew ∧ ((CallK Tryd.prog 18 #[(ρ 7)] w.drew fun v60_2 w_8 =>
  S w_8 ∧ (vBin .string .eql v60_2 v62_2 fun v63_2 =>
  leaveV ds w_8 fun W => K v63_2 W)) ∧
  (True))) ∧
  (True)))
  else
  (((leaveV ds w.drew fun W => K (.bool false) W) ∧
  (True)) ∧
  (((leaveV ds w.drew fun W => K (.bool false) W) ∧
  (True)) ∧
  (True))))
  else
  (((leaveV ds w.drew fun W => K (.bool false) W) ∧
  (True)) ∧
  (((leaveV ds w.drew fun W => K (.bool false) W) ∧
  (True)) ∧
  (True))))
  else
  (((leaveV ds w.drew fun W => K (.bool false) W) ∧
  (True)) ∧
  (((leaveV ds w.drew fun W => K (.bool false) W) ∧
  (True)) ∧
  (True)))

/-- gatehouse/gatehouselaw06.CpuRuns -/
def F4 (t0 : Value) (t1 : Value) (t2 : Value) (w : World) (K : Value → World → Prop) : Prop :=
  vBox 25 t1 w fun v4 w =>
  CallK Tryd.prog 10 #[] w fun v15 w_2 =>
  vUn .not v15 fun v16 =>
  vBool v16 fun c => if c = true then
   (K (.bool false) w_2)
  else
  CallK Tryd.prog 16 #[t0] w_2 fun v18 w_3 =>
  vPtr .eql v18 (.pointer none) w_3 fun v20 =>
  vBool v20 fun c_2 => if c_2 = true then
   (K (.bool false) w_3)
  else
  vMin t2 [(.int .i64 300)] fun v22 =>
  vLd (.agg 17) v4 w_3 fun v25 =>
  CallK Tryd.prog 14 #[v18, v25, v22] w_3 fun v27 w_4 =>
  vExt v27 0 fun v28 =>
  vExt v27 1 fun v29 =>
  vExt v27 2 fun v30 =>
  vAlloc Tryd.prog 25 w_4 fun v8 w_5 =>
  vSt (some 17) v8 v28 w_5 fun w_6 =>
  joinF [7, 8, 9, 10, 11, 12, 13, 14] (fun J1 =>
  drawF w_6 fun S =>
  vLen .string t0 fun v34 =>
  vMin v34 [(.int .i64 4096)] fun v35 =>
  vSlice .string t0 none (some v35) fun v36 =>
  vLdS S (.agg 17) v4 fun v38 =>
  (vS2B 5 v36 w_6.drew fun v37 w_7 =>
  S w_7 ∧ ((CallK Tryd.prog 17 #[v37, v38, v22] w_7 fun v40 w_8 =>
  S w_8 ∧ (vExt v40 0 fun v41 =>
  vExt v40 1 fun v42 =>
  vExt v40 2 fun v43 =>
  vExt v40 3 fun v44 =>
  (vAlloc Tryd.prog 25 w_8 fun v11 w_9 =>
  S w_9 ∧ ((vSt (some 17) v11 v41 w_9 fun w_10 =>
  (J1 [v18, v8, v29, v30, v11, v42, v43, v44] [] w_10)) ∧
  (True))) ∧
  (True))) ∧
  ((vAlloc Tryd.prog 25 w_7 fun v11_2 w_11 =>
  S w_11 ∧ ((CallK Tryd.prog 17 #[v37, v38, v22] w_11 fun v40_2 w_12 =>
  S w_12 ∧ (vExt v40_2 0 fun v41_2 =>
  vExt v40_2 1 fun v42_2 =>
  vExt v40_2 2 fun v43_2 =>
  vExt v40_2 3 fun v44_2 =>
  (vSt (some 17) v11_2 v41_2 w_12 fun w_13 =>
  (J1 [v18, v8, v29, v30, v11_2, v42_2, v43_2, v44_2] [] w_13)) ∧
  (True))) ∧
  (True))) ∧
  (True)))) ∧
  ((vAlloc Tryd.prog 25 w_6.drew fun v11_3 w_14 =>
  S w_14 ∧ ((vS2B 5 v36 w_14 fun v37_2 w_15 =>
  S w_15 ∧ ((CallK Tryd.prog 17 #[v37_2, v38, v22] w_15 fun v40_3 w_16 =>
  S w_16 ∧ (vExt v40_3 0 fun v41_3 =>
  vExt v40_3 1 fun v42_3 =>
  vExt v40_3 2 fun v43_3 =>
  vExt v40_3 3 fun v44_3 =>
  (vSt (some 17) v11_3 v41_3 w_16 fun w_17 =>
  (J1 [v18, v8, v29, v30, v11_3, v42_3, v43_3, v44_3] [] w_17)) ∧
  (True))) ∧
  (True))) ∧
  (True))) ∧
  (True)))
  (F4J1 K)

def tab4 : Tab := { sel := [], plan := [(8, (.take 0 (.take 1 (.take 2 (.take 3 (.take 4 (.take 6 (.take 7 (.alt 5 (.alt 8 (.take 9 (.take 10 (.take 11 (.take 12 (.take 13 (.alt 14 (.alt 15 (.take 16 (.take 17 (.take 18 .done))) .stop) .stop)))))) (.alt 14 (.alt 8 (.take 9 (.take 10 (.take 11 (.take 12 (.take 13 (.alt 15 (.take 16 (.take 17 (.take 18 .done))) .stop)))))) .stop) .stop)) (.alt 14 (.alt 5 (.alt 8 (.take 9 (.take 10 (.take 11 (.take 12 (.take 13 (.alt 15 (.take 16 (.take 17 (.take 18 .done))) .stop)))))) .stop) .stop) .stop)))))))))), (9, (.take 0 (.take 1 (.take 2 (.take 3 (.take 4 (.take 5 (.take 6 (.take 7 (.take 8 (.take 9 (.take 10 (.take 11 (.take 12 (.take 13 (.take 14 (.take 16 (.alt 15 (.alt 17 (.take 18 (.take 19 (.take 20 .done))) .stop) (.alt 17 (.alt 15 (.take 18 (.take 19 (.take 20 .done))) .stop) .stop)))))))))))))))))))], join := [(9, [7, 8, 9, 10, 11, 12, 13, 14])] }

theorem F4_eq (t0 : Value) (t1 : Value) (t2 : Value) (w : World) (K : Value → World → Prop) : enterV Tryd.prog tab4 Tryd.f4 [t0, t1, t2] w K = F4 t0 t1 t2 w K := by kernel_rfl

theorem F4_ok {t0 : Value} {t1 : Value} {t2 : Value} {w : World} {K : Value → World → Prop} (h : F4 t0 t1 t2 w K) : Ret Tryd.prog 4 #[t0, t1, t2] w K :=
  enter_sound (T := tab4) (args := [t0, t1, t2]) Tryd.func4 Tryd.call4 mixed (by kernel_rfl) (by rw [F4_eq]; exact h)

def F5J2 (K : Value → World → Prop) (ρ : Env) (ds : List Nat) (w : World) : Prop :=
  vLd (.agg 17) (ρ 8) w fun v51 =>
  CallK Tryd.prog 14 #[(ρ 7), v51, (.int .i64 1)] w fun v52 w_9 =>
  vExt v52 0 fun v53 =>
  vExt v52 1 fun v54 =>
  vExt v52 2 fun v55 =>
  vAlloc Tryd.prog 25 w_9 fun v9 w_10 =>
  vSt (some 17) v9 v53 w_10 fun w_11 =>
  drawF w_11 fun S =>
  vFA (some 1) (ρ 3) fun v56 =>
  vLdS S .one v56 fun v57 =>
  vFA (some 0) (ρ 3) fun v58 =>
  vLdS S .one v58 fun v59 =>
  vFA (some 0) (ρ 8) fun v63 =>
  (CallK Tryd.prog 21 #[v59, (ρ 1), (ρ 2)] w_11.drew fun v62 w_12 =>
  S w_12 ∧ (vIA (.arr 16 1) v63 v57 fun v64 =>
  (vSt (some 1) v64 v62 w_12 fun w_13 =>
  (vFA (some 16) (ρ 8) fun v65 =>
  vSt (some 1) v65 (.int .u64 4) w_13 fun w_14 =>
  vLd (.agg 17) v9 w_14 fun v66 =>
  vLd (.agg 17) (ρ 8) w_14 fun v67 =>
  vAggEq Tryd.prog 25 .eql v66 v67 fun v68 =>
  vBool v68 fun g => if g = true then
  (vBin (.int .i64) .eql v54 (.int .i64 1) fun v71 =>
  vBool v71 fun g_2 => if g_2 = true then
  (vBin (.int .i64) .eql v55 (.int .i64 0) fun v75 =>
  leaveV ds w_14 fun W => K v75 W)
  else
  (leaveV ds w_14 fun W => K (.bool false) W))
  else
  (leaveV ds w_14 fun W => K (.bool false) W))) ∧
  (True))) ∧
  (True)

def F5J1 (K : Value → World → Prop) (ρ : Env) (ds : List Nat) (w : World) : Prop :=
  vBool (ρ 26) fun c_2 => if c_2 = true then
   (leaveV ds w fun W => K (.bool true) W)
  else
  vLd (.agg 5) (ρ 3) w fun v27 =>
  CallK Tryd.prog 20 #[v27] w fun v28 w_3 =>
  CallK Tryd.prog 16 #[v28] w_3 fun v29 w_4 =>
  vPtr .eql v29 (.pointer none) w_4 fun v31 =>
  vBool v31 fun c_3 => if c_3 = true then
   (leaveV ds w_4 fun W => K (.bool false) W)
  else
  vBuild Tryd.prog 25 [] fun v32 =>
  vAlloc Tryd.prog 25 w_4 fun v8 w_5 =>
  vSt (some 17) v8 v32 w_5 fun w_6 =>
  vFA (some 2) (ρ 3) fun v33 =>
  vLd .one v33 w_6 fun v34 =>
  vFA (some 0) v8 fun v36 =>
  vIA (.arr 16 1) v36 v34 fun v37 =>
  vSt (some 1) v37 (ρ 1) w_6 fun w_7 =>
  vFA (some 3) (ρ 3) fun v38 =>
  vLd .one v38 w_7 fun v39 =>
  vFA (some 0) v8 fun v41 =>
  vIA (.arr 16 1) v41 v39 fun v42 =>
  vSt (some 1) v42 (ρ 2) w_7 fun w_8 =>
  joinF [1, 2, 3, 7, 8] (fun J2 =>
  vFA (some 2) (ρ 3) fun v43 =>
  vLd .one v43 w_8 fun v44 =>
  vFA (some 3) (ρ 3) fun v45 =>
  vLd .one v45 w_8 fun v46 =>
  vBin (.int .i64) .eql v44 v46 fun v47 =>
  vBool v47 fun c_4 => if c_4 = true then
   (J2 [(ρ 2), (ρ 2), (ρ 3), v29, v8] ds w_8)
  else
  J2 [(ρ 1), (ρ 2), (ρ 3), v29, v8] ds w_8)
  (F5J2 K)

/-- gatehouse/gatehouselaw06.CpuReckons -/
def F5 (t0 : Value) (t1 : Value) (t2 : Value) (w : World) (K : Value → World → Prop) : Prop :=
  vBox 48 t0 w fun v3 w =>
  CallK Tryd.prog 10 #[] w fun v12 w_2 =>
  vUn .not v12 fun v13 =>
  vBool v13 fun c => if c = true then
   (K (.bool false) w_2)
  else
  joinF [1, 2, 3, 26] (fun J1 =>
  vLd (.agg 5) v3 w_2 fun v14 =>
  CallK Tryd.prog 19 #[v14] w_2 fun v15 w_3 =>
  vUn .not v15 fun v16 =>
  vBool v16 fun g => if g = true then
  (J1 [t1, t2, v3, (.bool true)] [] w_3)
  else
  (vFA (some 0) v3 fun v18 =>
  vLd .one v18 w_3 fun v19 =>
  vBin (.int .i64) .lss v19 (.int .i64 6) fun v20 =>
  vBool v20 fun g_2 => if g_2 = true then
  (J1 [t1, t2, v3, (.bool true)] [] w_3)
  else
  (vFA (some 0) v3 fun v23 =>
  vLd .one v23 w_3 fun v24 =>
  vBin (.int .i64) .gtr v24 (.int .i64 17) fun v25 =>
  J1 [t1, t2, v3, v25] [] w_3)))
  (F5J1 K)

def tab5 : Tab := { sel := [], plan := [(14, (.take 0 (.take 1 (.take 2 (.take 3 (.take 4 (.take 5 (.take 7 (.alt 6 (.take 8 (.alt 9 .done .stop)) .stop)))))))))], join := [(13, [1, 2, 3, 7, 8]), (4, [1, 2, 3, 26])] }

theorem F5_eq (t0 : Value) (t1 : Value) (t2 : Value) (w : World) (K : Value → World → Prop) : enterV Tryd.prog tab5 Tryd.f5 [t0, t1, t2] w K = F5 t0 t1 t2 w K := by kernel_rfl

theorem F5_ok {t0 : Value} {t1 : Value} {t2 : Value} {w : World} {K : Value → World → Prop} (h : F5 t0 t1 t2 w K) : Ret Tryd.prog 5 #[t0, t1, t2] w K :=
  enter_sound (T := tab5) (args := [t0, t1, t2]) Tryd.func5 Tryd.call5 mixed (by kernel_rfl) (by rw [F5_eq]; exact h)

def F6J5 (J4 : List Value → List Nat → World → Prop) (K : Value → World → Prop) (ρ : Env) (ds : List Nat) (w : World) : Prop :=
  vBool (ρ 70) fun c_8 => if c_8 = true then
   (vBin (.int .i64) .eql (ρ 8) (.int .i64 0) fun v72 =>
   vBool v72 fun g => if g = true then
   (vLd (.agg 17) (ρ 7) w fun v74 =>
   vLd (.agg 17) (ρ 3) w fun v75 =>
   vAggEq Tryd.prog 25 .eql v74 v75 fun v76 =>
   vBool v76 fun g_2 => if g_2 = true then
   (vBin (.int .i64) .lss (ρ 12) (.int .i64 0) fun v80 =>
   vBool v80 fun g_3 => if g_3 = true then
   (vBin (.int .i64) .gtr (ρ 9) (.int .i64 1) fun v84 =>
   vBool v84 fun g_4 => if g_4 = true then
   (vBin (.int .i64) .leq (ρ 9) (.int .i64 4) fun v88 =>
   leaveV ds w fun W => K v88 W)
   else
   (leaveV ds w fun W => K (.bool false) W))
   else
   (leaveV ds w fun W => K (.bool false) W))
   else
   (leaveV ds w fun W => K (.bool false) W))
   else
   (leaveV ds w fun W => K (.bool false) W))
  else
  J4 [(ρ 3), (ρ 7), (ρ 8), (ρ 9), (ρ 11), (ρ 12), (ρ 13)] ds w

def F6J4 (K : Value → World → Prop) (ρ : Env) (ds : List Nat) (w : World) : Prop :=
  vBin (.int .i64) .eql (ρ 9) (.int .i64 1) fun v91 =>
  vBool v91 fun c_8 => if c_8 = true then
   (vBin (.int .i64) .eql (ρ 8) (.int .i64 0) fun v93 =>
   vBool v93 fun g => if g = true then
   (vBin (.int .i64) .eql (ρ 11) (.int .i64 0) fun v96 =>
   vBool v96 fun g_2 => if g_2 = true then
   (vBin (.int .i64) .lss (ρ 12) (.int .i64 0) fun v100 =>
   vBool v100 fun g_3 => if g_3 = true then
   (vFA (some 16) (ρ 7) fun v103 =>
   vLd .one v103 w fun v104 =>
   vFA (some 16) (ρ 3) fun v105 =>
   vLd .one v105 w fun v106 =>
   vBin (.int .u64) .add v106 (.int .u64 4) fun v107 =>
   vBin (.int .u64) .eql v104 v107 fun v108 =>
   leaveV ds w fun W => K v108 W)
   else
   (leaveV ds w fun W => K (.bool false) W))
   else
   (leaveV ds w fun W => K (.bool false) W))
   else
   (leaveV ds w fun W => K (.bool false) W))
  else
  vBin (.int .i64) .eql (ρ 8) (.int .i64 1) fun v111 =>
  vBool v111 fun g_4 => if g_4 = true then
  (vBin (.int .i64) .leq (ρ 11) (.int .i64 1) fun v114 =>
  vBool v114 fun g_5 => if g_5 = true then
  (vBin (.int .i64) .sub (ρ 13) (ρ 12) fun v119 =>
  vBin (.int .i64) .lss v119 (.int .i64 8) fun v120 =>
  vBool v120 fun g_6 => if g_6 = true then
  (vBin (.int .i64) .eql (ρ 11) (.int .i64 0) fun v124 =>
  vBool v124 fun g_7 => if g_7 = true then
  (leaveV ds w fun W => K (.bool true) W)
  else
  (vBin (.int .i64) .lss (ρ 12) (.int .i64 0) fun v127 =>
  leaveV ds w fun W => K v127 W))
  else
  (leaveV ds w fun W => K (.bool false) W))
  else
  (leaveV ds w fun W => K (.bool false) W))
  else
  (leaveV ds w fun W => K (.bool false) W)

def F6L2 (K : Value → World → Prop) (ρ : Env) (ds : List Nat) (w : World) (ag2 : List Value → List Nat → World → Prop) : Prop :=
  vLen .string (ρ 6) fun v50 =>
  vBin (.int .i64) .lss (ρ 15) v50 fun v51 =>
  vBool v51 fun c_5 => if c_5 = true then
   (drawF w fun S_2 =>
  vIx .string .bad (ρ 6) (ρ 15) fun v56 =>
  vIx .string .bad (ρ 10) (ρ 15) fun v59 =>
  vBin (.int .u8) .neq v56 v59 fun v60 =>
  vBool v60 fun c_6 => if c_6 = true then
   (vBin (.int .i64) .lss (ρ 12) (.int .i64 0) fun v62 =>
   vBool v62 fun c_7 => if c_7 = true then
    (vBin (.int .i64) .add (ρ 15) (.int .i64 1) fun v53 =>
  ag2 [(ρ 3), (ρ 6), (ρ 7), (ρ 8), (ρ 9), (ρ 10), (ρ 11), (ρ 15), (ρ 15), v53] ds w.drew)
   else
   vBin (.int .i64) .add (ρ 15) (.int .i64 1) fun v53_2 =>
  ag2 [(ρ 3), (ρ 6), (ρ 7), (ρ 8), (ρ 9), (ρ 10), (ρ 11), (ρ 12), (ρ 15), v53_2] ds w.drew)
  else
  vBin (.int .i64) .add (ρ 15) (.int .i64 1) fun v53_3 =>
  ag2 [(ρ 3), (ρ 6), (ρ 7), (ρ 8), (ρ 9), (ρ 10), (ρ 11), (ρ 12), (ρ 13), v53_3] ds w.drew)
  else
  joinF [3, 7, 8, 9, 11, 12, 13] (fun J4 =>
  joinF [3, 7, 8, 9, 11, 12, 13, 70] (fun J5 =>
  vBin (.int .i64) .neq (ρ 9) (.int .i64 0) fun v66 =>
  vBool v66 fun g => if g = true then
  (vBin (.int .i64) .neq (ρ 9) (.int .i64 1) fun v69 =>
  J5 [(ρ 3), (ρ 7), (ρ 8), (ρ 9), (ρ 11), (ρ 12), (ρ 13), v69] ds w)
  else
  (J5 [(ρ 3), (ρ 7), (ρ 8), (ρ 9), (ρ 11), (ρ 12), (ρ 13), (.bool false)] ds w))
  (F6J5 J4 K))
  (F6J4 K)

def F6L1 (K : Value → World → Prop) (ρ : Env) (ds : List Nat) (w : World) (ag1 : List Value → List Nat → World → Prop) : Prop :=
  vBin (.int .i64) .lss (ρ 33) (.int .i64 16) fun v34 =>
  vBool v34 fun c_3 => if c_3 = true then
   (drawF w fun S =>
  vFA (some 0) (ρ 7) fun v37 =>
  vIA (.arr 16 1) v37 (ρ 33) fun v38 =>
  vLdS S .one v38 fun v39 =>
  vFA (some 0) (ρ 3) fun v41 =>
  vIA (.arr 16 1) v41 (ρ 33) fun v42 =>
  vLdS S .one v42 fun v43 =>
  vBin (.int .u64) .neq v39 v43 fun v44 =>
  vBool v44 fun c_4 => if c_4 = true then
   (vBin (.int .i64) .add (ρ 11) (.int .i64 1) fun v46 =>
   vBin (.int .i64) .add (ρ 33) (.int .i64 1) fun v47 =>
  ag1 [(ρ 3), (ρ 6), (ρ 7), (ρ 8), (ρ 9), (ρ 10), v46, (ρ 12), (ρ 13), v47] ds w.drew)
  else
  vBin (.int .i64) .add (ρ 33) (.int .i64 1) fun v47_2 =>
  ag1 [(ρ 3), (ρ 6), (ρ 7), (ρ 8), (ρ 9), (ρ 10), (ρ 11), (ρ 12), (ρ 13), v47_2] ds w.drew)
  else
  loopF [3, 6, 7, 8, 9, 10, 11, 12, 13, 15] [(ρ 3), (ρ 6), (ρ 7), (ρ 8), (ρ 9), (ρ 10), (ρ 11), (ρ 12), (ρ 13), (.int .i64 0)] ds w (F6L2 K)

/-- gatehouse/gatehouselaw06.CpuLittle -/
def F6 (t0 : Value) (t1 : Value) (w : World) (K : Value → World → Prop) : Prop :=
  vBox 25 t1 w fun v3 w =>
  CallK Tryd.prog 10 #[] w fun v16 w_2 =>
  vUn .not v16 fun v17 =>
  vBool v17 fun c => if c = true then
   (K (.bool false) w_2)
  else
  CallK Tryd.prog 16 #[t0] w_2 fun v19 w_3 =>
  vPtr .eql v19 (.pointer none) w_3 fun v21 =>
  vBool v21 fun c_2 => if c_2 = true then
   (K (.bool false) w_3)
  else
  CallK Tryd.prog 18 #[v19] w_3 fun v23 w_4 =>
  vLd (.agg 17) v3 w_4 fun v26 =>
  CallK Tryd.prog 14 #[v19, v26, (.int .i64 1)] w_4 fun v27 w_5 =>
  vExt v27 0 fun v28 =>
  vExt v27 1 fun v29 =>
  vExt v27 2 fun v30 =>
  vAlloc Tryd.prog 25 w_5 fun v7 w_6 =>
  vSt (some 17) v7 v28 w_6 fun w_7 =>
  CallK Tryd.prog 18 #[v19] w_7 fun v32 w_8 =>
  loopF [3, 6, 7, 8, 9, 10, 11, 12, 13, 33] [v3, v23, v7, v29, v30, v32, (.int .i64 0), (.int .i64 (-1)), (.int .i64 (-1)), (.int .i64 0)] [] w_8 (F6L1 K)

def tab6 : Tab := { sel := [(17, [3, 6, 7, 8, 9, 10, 11, 12, 13, 15]), (11, [3, 6, 7, 8, 9, 10, 11, 12, 13, 33])], plan := [(13, (.take 0 (.take 1 (.take 2 (.take 3 (.take 4 (.take 5 (.take 6 (.take 7 (.take 8 .done)))))))))), (19, (.take 0 (.take 1 (.take 2 (.take 3 (.take 4 (.take 5 (.take 6 .done))))))))], join := [(25, [3, 7, 8, 9, 11, 12, 13]), (24, [3, 7, 8, 9, 11, 12, 13, 70])] }

theorem F6_eq (t0 : Value) (t1 : Value) (w : World) (K : Value → World → Prop) : enterV Tryd.prog tab6 Tryd.f6 [t0, t1] w K = F6 t0 t1 w K := by kernel_rfl

theorem F6_ok {t0 : Value} {t1 : Value} {w : World} {K : Value → World → Prop} (h : F6 t0 t1 w K) : Ret Tryd.prog 6 #[t0, t1] w K :=
  enter_sound (T := tab6) (args := [t0, t1]) Tryd.func6 Tryd.call6 mixed (by kernel_rfl) (by rw [F6_eq]; exact h)

def F7J2 (K : Value → World → Prop) (ρ : Env) (ds : List Nat) (w : World) : Prop :=
  vLd (.agg 17) (ρ 11) w fun v73 =>
  vLd (.agg 17) (ρ 14) w fun v74 =>
  vAggEq Tryd.prog 25 .eql v73 v74 fun v75 =>
  vBool v75 fun g => if g = true then
  (vBin (.int .i64) .eql (ρ 12) (ρ 15) fun v79 =>
  vBool v79 fun g_2 => if g_2 = true then
  (vBin (.int .i64) .eql (ρ 13) (ρ 16) fun v84 =>
  vBool v84 fun g_3 => if g_3 = true then
  (CallK Tryd.prog 18 #[(ρ 9)] w fun v88 w_11 =>
  CallK Tryd.prog 18 #[(ρ 10)] w_11 fun v90 w_12 =>
  vBin .string .eql v88 v90 fun v91 =>
  leaveV ds w_12 fun W => K v91 W)
  else
  (leaveV ds w fun W => K (.bool false) W))
  else
  (leaveV ds w fun W => K (.bool false) W))
  else
  (leaveV ds w fun W => K (.bool false) W)

def F7J1 (K : Value → World → Prop) (ρ : Env) (ds : List Nat) (w : World) : Prop :=
  vBool (ρ 31) fun c_2 => if c_2 = true then
   (leaveV ds w fun W => K (.bool false) W)
  else
  vConv (.int .u64) (ρ 2) fun v33 =>
  vBin (.int .u64) .rem v33 (.int .u64 200) fun v34 =>
  vConv (.int .i64) v34 fun v35 =>
  vConv (.int .u64) (ρ 3) fun v37 =>
  vBin (.int .u64) .rem v37 (.int .u64 200) fun v38 =>
  vConv (.int .i64) v38 fun v39 =>
  vLd (.agg 17) (ρ 5) w fun v42 =>
  vBin (.int .i64) .add v35 v39 fun v45 =>
  CallK Tryd.prog 14 #[(ρ 9), v42, v45] w fun v46 w_5 =>
  vExt v46 0 fun v47 =>
  vExt v46 1 fun v48 =>
  vExt v46 2 fun v49 =>
  vAlloc Tryd.prog 25 w_5 fun v11 w_6 =>
  vSt (some 17) v11 v47 w_6 fun w_7 =>
  vLd (.agg 17) (ρ 5) w_7 fun v52 =>
  CallK Tryd.prog 14 #[(ρ 10), v52, v35] w_7 fun v54 w_8 =>
  vExt v54 0 fun v55 =>
  vExt v54 1 fun v56 =>
  vExt v54 2 fun v57 =>
  vAlloc Tryd.prog 25 w_8 fun v14 w_9 =>
  vSt (some 17) v14 v55 w_9 fun w_10 =>
  joinF [9, 10, 11, 12, 13, 14, 15, 16] (fun J2 =>
  vBin (.int .i64) .eql v57 (.int .i64 0) fun v59 =>
  vBool v59 fun c_3 => if c_3 = true then
   (vLd (.agg 17) v14 w_10 fun v62 =>
   CallK Tryd.prog 14 #[(ρ 10), v62, v39] w_10 fun v64 w_11 =>
   vExt v64 0 fun v65 =>
   vExt v64 1 fun v66 =>
   vExt v64 2 fun v67 =>
   vAlloc Tryd.prog 25 w_11 fun v17 w_12 =>
   vSt (some 17) v17 v65 w_12 fun w_13 =>
   vLd (.agg 17) v17 w_13 fun v68 =>
   vBin (.int .i64) .add v56 v66 fun v71 =>
   vSt (some 17) v14 v68 w_13 fun w_14 =>
   J2 [(ρ 9), (ρ 10), v11, v48, v49, v14, v71, v67] ds w_14)
  else
  J2 [(ρ 9), (ρ 10), v11, v48, v49, v14, v56, v57] ds w_10)
  (F7J2 K)

/-- gatehouse/gatehouselaw06.CpuParts -/
def F7 (t0 : Value) (t1 : Value) (t2 : Value) (t3 : Value) (w : World) (K : Value → World → Prop) : Prop :=
  vBox 25 t1 w fun v5 w =>
  CallK Tryd.prog 10 #[] w fun v20 w_2 =>
  vUn .not v20 fun v21 =>
  vBool v21 fun c => if c = true then
   (K (.bool false) w_2)
  else
  CallK Tryd.prog 16 #[t0] w_2 fun v23 w_3 =>
  CallK Tryd.prog 16 #[t0] w_3 fun v25 w_4 =>
  joinF [2, 3, 5, 9, 10, 31] (fun J1 =>
  vPtr .eql v23 (.pointer none) w_4 fun v27 =>
  vBool v27 fun g => if g = true then
  (J1 [t2, t3, v5, v23, v25, (.bool true)] [] w_4)
  else
  (vPtr .eql v25 (.pointer none) w_4 fun v30 =>
  J1 [t2, t3, v5, v23, v25, v30] [] w_4))
  (F7J1 K)

def tab7 : Tab := { sel := [], plan := [], join := [(12, [9, 10, 11, 12, 13, 14, 15, 16]), (5, [2, 3, 5, 9, 10, 31])] }

theorem F7_eq (t0 : Value) (t1 : Value) (t2 : Value) (t3 : Value) (w : World) (K : Value → World → Prop) : enterV Tryd.prog tab7 Tryd.f7 [t0, t1, t2, t3] w K = F7 t0 t1 t2 t3 w K := by kernel_rfl

theorem F7_ok {t0 : Value} {t1 : Value} {t2 : Value} {t3 : Value} {w : World} {K : Value → World → Prop} (h : F7 t0 t1 t2 t3 w K) : Ret Tryd.prog 7 #[t0, t1, t2, t3] w K :=
  enter_sound (T := tab7) (args := [t0, t1, t2, t3]) Tryd.func7 Tryd.call7 mixed (by kernel_rfl) (by rw [F7_eq]; exact h)

def F8J3 (K : Value → World → Prop) (ρ : Env) (ds : List Nat) (w : World) : Prop :=
  vBin (.int .i64) .eql (ρ 14) (.int .i64 2) fun v83 =>
  vBool v83 fun g_3 => if g_3 = true then
  (vBin (.int .i64) .eql (ρ 15) (.int .i64 0) fun v86 =>
  vBool v86 fun g_4 => if g_4 = true then
  (vFA (some 0) (ρ 13) fun v89 =>
  vIA (.arr 16 1) v89 (.int .i64 3) fun v90 =>
  vLd .one v90 w fun v91 =>
  vBin (.int .u64) .eql v91 (ρ 16) fun v93 =>
  vBool v93 fun g_5 => if g_5 = true then
  (vFA (some 16) (ρ 13) fun v96 =>
  vLd .one v96 w fun v97 =>
  vBin (.int .u64) .eql v97 (.int .u64 8) fun v98 =>
  leaveV ds w fun W => K v98 W)
  else
  (leaveV ds w fun W => K (.bool false) W))
  else
  (leaveV ds w fun W => K (.bool false) W))
  else
  (leaveV ds w fun W => K (.bool false) W)

def F8J2 (K : Value → World → Prop) (ρ : Env) (ds : List Nat) (w : World) : Prop :=
  vBool (ρ 63) fun c_3 => if c_3 = true then
   (vBin (.int .i64) .eql (ρ 14) (.int .i64 0) fun v65 =>
   vBool v65 fun g => if g = true then
   (vBin (.int .i64) .eql (ρ 15) (.int .i64 3) fun v68 =>
   vBool v68 fun g_2 => if g_2 = true then
   (vLd (.agg 17) (ρ 13) w fun v71 =>
   vLd (.agg 17) (ρ 12) w fun v72 =>
   vAggEq Tryd.prog 25 .eql v71 v72 fun v73 =>
   leaveV ds w fun W => K v73 W)
   else
   (leaveV ds w fun W => K (.bool false) W))
   else
   (leaveV ds w fun W => K (.bool false) W))
  else
  vBin (.int .u64) .lss (ρ 1) (.int .u64 8) fun v76 =>
  vBool v76 fun c_4 => if c_4 = true then
   (leaveV ds w fun W => K (.bool true) W)
  else
  joinF [13, 14, 15, 16] (fun J3 =>
  vBin (.int .u64) .eql (ρ 10) (.int .u64 1) fun v79 =>
  vBool v79 fun c_5 => if c_5 = true then
   (vBin (.int .u64) .rem (ρ 2) (.int .u64 256) fun v81 =>
   J3 [(ρ 13), (ρ 14), (ρ 15), v81] ds w)
  else
  J3 [(ρ 13), (ρ 14), (ρ 15), (ρ 2)] ds w)
  (F8J3 K)

def F8J1 (K : Value → World → Prop) (ρ : Env) (ds : List Nat) (w : World) : Prop :=
  vLen .string (ρ 9) fun v30 =>
  vBin (.int .i64) .sub (ρ 0) v30 fun v31 =>
  vMakeSlice Tryd.prog 42 v31 v31 w fun v32 w_2 =>
  vB2S v32 w_2 fun v33 =>
  vBin .string .add (ρ 9) v33 fun v34 =>
  CallK Tryd.prog 16 #[v34] w_2 fun v35 w_3 =>
  vPtr .eql v35 (.pointer none) w_3 fun v37 =>
  vBool v37 fun c_2 => if c_2 = true then
   (leaveV ds w_3 fun W => K (.bool false) W)
  else
  vBuild Tryd.prog 25 [] fun v38 =>
  vAlloc Tryd.prog 25 w_3 fun v12 w_4 =>
  vSt (some 17) v12 v38 w_4 fun w_5 =>
  vFA (some 0) v12 fun v41 =>
  vIA (.arr 16 1) v41 (.int .i64 1) fun v42 =>
  vSt (some 1) v42 (ρ 2) w_5 fun w_6 =>
  vFA (some 0) v12 fun v43 =>
  vIA (.arr 16 1) v43 (.int .i64 2) fun v44 =>
  vSt (some 1) v44 (ρ 1) w_6 fun w_7 =>
  vLd (.agg 17) v12 w_7 fun v47 =>
  CallK Tryd.prog 14 #[v35, v47, (.int .i64 2)] w_7 fun v48 w_8 =>
  vExt v48 0 fun v49 =>
  vExt v48 1 fun v50 =>
  vExt v48 2 fun v51 =>
  vAlloc Tryd.prog 25 w_8 fun v13 w_9 =>
  vSt (some 17) v13 v49 w_9 fun w_10 =>
  joinF [1, 2, 10, 12, 13, 14, 15, 63] (fun J2 =>
  vConv (.int .u64) (ρ 0) fun v54 =>
  vBin (.int .u64) .gtr (ρ 1) v54 fun v55 =>
  vBool v55 fun g => if g = true then
  (J2 [(ρ 1), (ρ 2), (ρ 10), v12, v13, v50, v51, (.bool true)] ds w_10)
  else
  (vConv (.int .u64) (ρ 0) fun v59 =>
  vBin (.int .u64) .sub v59 (ρ 1) fun v61 =>
  vBin (.int .u64) .gtr (ρ 10) v61 fun v62 =>
  J2 [(ρ 1), (ρ 2), (ρ 10), v12, v13, v50, v51, v62] ds w_10))
  (F8J2 K)

/-- gatehouse/gatehouselaw06.CpuMoves -/
def F8 (t0 : Value) (t1 : Value) (t2 : Value) (t3 : Value) (w : World) (K : Value → World → Prop) : Prop :=
  CallK Tryd.prog 10 #[] w fun v17 w =>
  vUn .not v17 fun v18 =>
  vBool v18 fun c => if c = true then
   (K (.bool false) w)
  else
  vConv (.int .u64) t0 fun v20 =>
  vBin (.int .u64) .rem v20 (.int .u64 200) fun v21 =>
  vConv (.int .i64) v21 fun v22 =>
  vBin (.int .i64) .add (.int .i64 64) v22 fun v23 =>
  joinF [0, 1, 2, 9, 10] (fun J1 =>
  vBin (.int .i64) .rem t3 (.int .i64 2) fun v25 =>
  vBin (.int .i64) .eql v25 (.int .i64 0) fun v26 =>
  vBool v26 fun c_2 => if c_2 = true then
   (J1 [v23, t1, t2, (.string ⟨#[19, 1, 2, 0, 18, 3, 2, 0]⟩), (.int .u64 1)] [] w)
  else
  J1 [v23, t1, t2, (.string ⟨#[21, 1, 2, 0, 20, 3, 2, 0]⟩), (.int .u64 8)] [] w)
  (F8J1 K)

def tab8 : Tab := { sel := [], plan := [], join := [(22, [13, 14, 15, 16]), (16, [1, 2, 10, 12, 13, 14, 15, 63]), (9, [0, 1, 2, 9, 10])] }

theorem F8_eq (t0 : Value) (t1 : Value) (t2 : Value) (t3 : Value) (w : World) (K : Value → World → Prop) : enterV Tryd.prog tab8 Tryd.f8 [t0, t1, t2, t3] w K = F8 t0 t1 t2 t3 w K := by kernel_rfl

theorem F8_ok {t0 : Value} {t1 : Value} {t2 : Value} {t3 : Value} {w : World} {K : Value → World → Prop} (h : F8 t0 t1 t2 t3 w K) : Ret Tryd.prog 8 #[t0, t1, t2, t3] w K :=
  enter_sound (T := tab8) (args := [t0, t1, t2, t3]) Tryd.func8 Tryd.call8 mixed (by kernel_rfl) (by rw [F8_eq]; exact h)

def F9L1 (K : Value → World → Prop) (ρ : Env) (ds : List Nat) (w : World) (ag1 : List Value → List Nat → World → Prop) : Prop :=
  vBin (.int .i64) .leq (ρ 15) (.int .i64 24) fun v79 =>
  vBool v79 fun c_5 => if c_5 = true then
   (vConv (.int .u8) (ρ 15) fun v83 =>
  vConv (.int .u8) (ρ 2) fun v85 =>
  vBin (.int .i64) .shr (ρ 2) (.int .u64 8) fun v87 =>
  vConv (.int .u8) v87 fun v88 =>
  vBuildSlice Tryd.prog 42 4 [(0, v83), (1, (.int .u8 2)), (2, v85), (3, v88)] w fun v89 w_14 =>
  vB2S v89 w_14 fun v90 =>
  CallK Tryd.prog 16 #[v90] w_14 fun v91 w_15 =>
  vBuild Tryd.prog 25 [] fun v92 =>
  vAlloc Tryd.prog 25 w_15 fun v17 w_16 =>
  vSt (some 17) v17 v92 w_16 fun w_17 =>
  vFA (some 0) v17 fun v94 =>
  vIA (.arr 16 1) v94 (.int .i64 2) fun v95 =>
  vSt (some 1) v95 (ρ 1) w_17 fun w_18 =>
  vLd (.agg 17) v17 w_18 fun v98 =>
  CallK Tryd.prog 14 #[v91, v98, (.int .i64 1)] w_18 fun v99 w_19 =>
  vExt v99 0 fun v100 =>
  vExt v99 1 fun v101 =>
  vExt v99 2 fun v102 =>
  vAlloc Tryd.prog 25 w_19 fun v18 w_20 =>
  vSt (some 17) v18 v100 w_20 fun w_21 =>
  vBin (.int .u64) .eql (ρ 1) (.int .u64 0) fun v104 =>
  vBin (.int .i64) .eql (ρ 15) (.int .i64 23) fun v106 =>
  vBin .bool .eql v104 v106 fun v107 =>
  vBool v107 fun c_6 => if c_6 = true then
   (vConv (.int .u64) (ρ 2) fun v110 =>
   vBin (.int .u64) .mul (.int .u64 4) v110 fun v111 =>
   vBin (.int .u64) .add (.int .u64 4) v111 fun v112 =>
   vBin (.int .i64) .neq v102 (.int .i64 0) fun v114 =>
  vBool v114 fun g => if g = true then
  (leaveV ds w_21 fun W => K (.bool false) W)
  else
  (vFA (some 16) v18 fun v116 =>
  vLd .one v116 w_21 fun v117 =>
  vBin (.int .u64) .neq v117 v112 fun v119 =>
  vBool v119 fun c_7 => if c_7 = true then
   (leaveV ds w_21 fun W => K (.bool false) W)
  else
  vBin (.int .i64) .add (ρ 15) (.int .i64 1) fun v81 =>
  ag1 [(ρ 1), (ρ 2), v81] ds w_21))
  else
  vBin (.int .i64) .neq v102 (.int .i64 0) fun v114_2 =>
  vBool v114_2 fun g_2 => if g_2 = true then
  (leaveV ds w_21 fun W => K (.bool false) W)
  else
  (vFA (some 16) v18 fun v116_2 =>
  vLd .one v116_2 w_21 fun v117_2 =>
  vBin (.int .u64) .neq v117_2 (.int .u64 4) fun v119_2 =>
  vBool v119_2 fun c_8 => if c_8 = true then
   (leaveV ds w_21 fun W => K (.bool false) W)
  else
  vBin (.int .i64) .add (ρ 15) (.int .i64 1) fun v81_2 =>
  ag1 [(ρ 1), (ρ 2), v81_2] ds w_21))
  else
  leaveV ds w fun W => K (.bool true) W

def F9J2 (K : Value → World → Prop) (ρ : Env) (ds : List Nat) (w : World) : Prop :=
  vBool (ρ 77) fun c_4 => if c_4 = true then
   (leaveV ds w fun W => K (.bool false) W)
  else
  loopF [1, 2, 15] [(ρ 1), (ρ 2), (.int .i64 23)] ds w (F9L1 K)

def F9J1 (K : Value → World → Prop) (ρ : Env) (ds : List Nat) (w : World) : Prop :=
  vBool (ρ 61) fun c_3 => if c_3 = true then
   (leaveV ds w fun W => K (.bool false) W)
  else
  CallK Tryd.prog 16 #[(.string ⟨#[26, 0, 0, 0]⟩)] w fun v62 w_9 =>
  vFA (some 16) (ρ 9) fun v63 =>
  vSt (some 1) v63 (.int .u64 0) w_9 fun w_10 =>
  vLd (.agg 17) (ρ 9) w_10 fun v66 =>
  CallK Tryd.prog 14 #[v62, v66, (.int .i64 1)] w_10 fun v67 w_11 =>
  vExt v67 0 fun v68 =>
  vExt v67 1 fun v69 =>
  vExt v67 2 fun v70 =>
  vAlloc Tryd.prog 25 w_11 fun v13 w_12 =>
  vSt (some 17) v13 v68 w_12 fun w_13 =>
  joinF [1, 2, 77] (fun J2 =>
  vBin (.int .i64) .neq v70 (.int .i64 0) fun v72 =>
  vBool v72 fun g => if g = true then
  (J2 [(ρ 1), (ρ 2), (.bool true)] ds w_13)
  else
  (vFA (some 16) v13 fun v74 =>
  vLd .one v74 w_13 fun v75 =>
  vBin (.int .u64) .neq v75 (.int .u64 4) fun v76 =>
  J2 [(ρ 1), (ρ 2), v76] ds w_13))
  (F9J2 K)

/-- gatehouse/gatehouselaw06.CpuWays -/
def F9 (t0 : Value) (t1 : Value) (t2 : Value) (w : World) (K : Value → World → Prop) : Prop :=
  CallK Tryd.prog 10 #[] w fun v22 w =>
  vUn .not v22 fun v23 =>
  vBool v23 fun c => if c = true then
   (K (.bool false) w)
  else
  vConv (.int .i16) t2 fun v25 =>
  vConv (.int .i64) v25 fun v26 =>
  CallK Tryd.prog 16 #[(.string ⟨#[25, 15, 1, 0]⟩)] w fun v27 w_2 =>
  vPtr .eql v27 (.pointer none) w_2 fun v29 =>
  vBool v29 fun c_2 => if c_2 = true then
   (K (.bool false) w_2)
  else
  vBuild Tryd.prog 25 [] fun v30 =>
  vAlloc Tryd.prog 25 w_2 fun v8 w_3 =>
  vSt (some 17) v8 v30 w_3 fun w_4 =>
  vFA (some 0) v8 fun v32 =>
  vIA (.arr 16 1) v32 (.int .i64 1) fun v33 =>
  vSt (some 1) v33 t0 w_4 fun w_5 =>
  vLd (.agg 17) v8 w_5 fun v36 =>
  CallK Tryd.prog 14 #[v27, v36, (.int .i64 1)] w_5 fun v37 w_6 =>
  vExt v37 0 fun v38 =>
  vExt v37 1 fun v39 =>
  vExt v37 2 fun v40 =>
  vAlloc Tryd.prog 25 w_6 fun v9 w_7 =>
  vSt (some 17) v9 v38 w_7 fun w_8 =>
  joinF [1, 2, 9, 61] (fun J1 =>
  vBin (.int .i64) .neq v40 (.int .i64 0) fun v42 =>
  vBool v42 fun g => if g = true then
  (J1 [t1, v26, v9, (.bool true)] [] w_8)
  else
  (vFA (some 16) v9 fun v44 =>
  vLd .one v44 w_8 fun v45 =>
  vBin (.int .u64) .neq v45 t0 fun v47 =>
  vBool v47 fun g_2 => if g_2 = true then
  (J1 [t1, v26, v9, (.bool true)] [] w_8)
  else
  (vFA (some 0) v9 fun v50 =>
  vIA (.arr 16 1) v50 (.int .i64 15) fun v51 =>
  vLd .one v51 w_8 fun v52 =>
  vBin (.int .u64) .neq v52 (.int .u64 4) fun v53 =>
  vBool v53 fun g_3 => if g_3 = true then
  (J1 [t1, v26, v9, (.bool true)] [] w_8)
  else
  (vFA (some 0) v9 fun v56 =>
  vIA (.arr 16 1) v56 (.int .i64 1) fun v57 =>
  vLd .one v57 w_8 fun v58 =>
  vBin (.int .u64) .neq v58 t0 fun v60 =>
  J1 [t1, v26, v9, v60] [] w_8))))
  (F9J1 K)

def tab9 : Tab := { sel := [(18, [1, 2, 15])], plan := [], join := [(16, [1, 2, 77]), (11, [1, 2, 9, 61])] }

theorem F9_eq (t0 : Value) (t1 : Value) (t2 : Value) (w : World) (K : Value → World → Prop) : enterV Tryd.prog tab9 Tryd.f9 [t0, t1, t2] w K = F9 t0 t1 t2 w K := by kernel_rfl

theorem F9_ok {t0 : Value} {t1 : Value} {t2 : Value} {w : World} {K : Value → World → Prop} (h : F9 t0 t1 t2 w K) : Ret Tryd.prog 9 #[t0, t1, t2] w K :=
  enter_sound (T := tab9) (args := [t0, t1, t2]) Tryd.func9 Tryd.call9 mixed (by kernel_rfl) (by rw [F9_eq]; exact h)

/-- gatehouse/gatehouselaw06.lives -/
def F10 (w : World) (K : Value → World → Prop) : Prop :=
  CallK Tryd.prog 16 #[(.string ⟨#[3, 1, 5, 0, 3, 2, 7, 0, 8, 3, 1, 2, 0, 0, 0, 0]⟩)] w fun v5 w =>
  vPtr .eql v5 (.pointer none) w fun v7 =>
  vBool v7 fun c => if c = true then
   (K (.bool false) w)
  else
  vBuild Tryd.prog 25 [] fun v10 =>
  CallK Tryd.prog 14 #[v5, v10, (.int .i64 10)] w fun v11 w_2 =>
  vExt v11 0 fun v12 =>
  vExt v11 1 fun v13 =>
  vExt v11 2 fun v14 =>
  vAlloc Tryd.prog 25 w_2 fun v2 w_3 =>
  vSt (some 17) v2 v12 w_3 fun w_4 =>
  vFA (some 0) v2 fun v15 =>
  vIA (.arr 16 1) v15 (.int .i64 3) fun v16 =>
  vLd .one v16 w_4 fun v17 =>
  vBin (.int .u64) .eql v17 (.int .u64 35) fun v18 =>
  vBool v18 fun g => if g = true then
  (vBin (.int .i64) .eql v13 (.int .i64 3) fun v21 =>
  vBool v21 fun g_2 => if g_2 = true then
  (vBin (.int .i64) .eql v14 (.int .i64 2) fun v25 =>
  vBool v25 fun g_3 => if g_3 = true then
  (vFA (some 16) v2 fun v28 =>
  vLd .one v28 w_4 fun v29 =>
  vBin (.int .u64) .eql v29 (.int .u64 12) fun v30 =>
  K v30 w_4)
  else
  (K (.bool false) w_4))
  else
  (K (.bool false) w_4))
  else
  (K (.bool false) w_4)

def tab10 : Tab := { sel := [], plan := [], join := [] }

theorem F10_eq (w : World) (K : Value → World → Prop) : enterV Tryd.prog tab10 Tryd.f10 [] w K = F10 w K := by kernel_rfl

theorem F10_ok {w : World} {K : Value → World → Prop} (h : F10 w K) : Ret Tryd.prog 10 #[] w K :=
  enter_sound (T := tab10) (args := []) Tryd.func10 Tryd.call10 mixed (by kernel_rfl) (by rw [F10_eq]; exact h)

/-- gatehouse/pages.New -/
def F11 (t0 : Value) (w : World) (K : Value → World → Prop) : Prop :=
  vBuild Tryd.prog 61 [] fun v6 =>
  vBox 61 v6 w fun v7 w =>
  CallK Tryd.prog 22 #[v7, t0] w fun v10 w_2 =>
  vBin (.int .i64) .neq v10 (.int .i64 0) fun v12 =>
  vBool v12 fun c => if c = true then
   (K (.tuple #[(.pointer none), v10]) w_2)
  else
  K (.tuple #[v7, (.int .i64 0)]) w_2

def tab11 : Tab := { sel := [], plan := [], join := [] }

theorem F11_eq (t0 : Value) (w : World) (K : Value → World → Prop) : enterV Tryd.prog tab11 Tryd.f11 [t0] w K = F11 t0 w K := by kernel_rfl

theorem F11_ok {t0 : Value} {w : World} {K : Value → World → Prop} (h : F11 t0 w K) : Ret Tryd.prog 11 #[t0] w K :=
  enter_sound (T := tab11) (args := [t0]) Tryd.func11 Tryd.call11 mixed (by kernel_rfl) (by rw [F11_eq]; exact h)

def F12R1a (r : Option Nat) (ρ : Env) (w : World) (Q : QV) : Prop :=
  vAlloc Tryd.prog 68 w fun v10 w_7 =>
  vSt (some 2) v10 (ρ 26) w_7 fun w_8 =>
  Q .normal (put (put ρ (some 9) (ρ 25)) (some 10) v10) [] w_8

def F12R1b (r : Option Nat) (ρ : Env) (w : World) (Q1 : Exit → World → Prop) : Prop :=
  drawF w fun S =>
  vLdS S .one (ρ 7) fun v27 =>
  vLdS S .one (ρ 3) fun v28 =>
  vIA (.arr 2 1) (ρ 10) (.int .i64 0) fun v32 =>
  vLdS S .one v32 fun v33 =>
  vIA (.arr 2 1) (ρ 10) (.int .i64 1) fun v34 =>
  vLdS S .one v34 fun v35 =>
  vLdS S .one (ρ 7) fun v37 =>
  (CallK Tryd.prog 26 #[v28, (ρ 9)] w.drew fun v30 w_7 =>
  S w_7 ∧ (vNilP Tryd.prog v30 fun v31 =>
  vSlice (.arr 64 1) v31 (some v33) (some v35) fun v36 =>
  (vCopy Tryd.prog 42 v36 v37 w_7 fun v38 w_8 =>
  S w_8 ∧ (vSlice .string v27 (some v38) none fun v39 =>
  (vSt (some 1) (ρ 7) v39 w_8 fun w_9 =>
  (Q1 .normal w_9)) ∧
  (True))) ∧
  (True))) ∧
  (True)

/-- (*gatehouse/pages.Bytes).Write -/
def F12 (t0 : Value) (t1 : Value) (t2 : Value) (w : World) (K : Value → World → Prop) : Prop :=
  vBox 27 t0 w fun v3 w =>
  CallK Tryd.prog 23 #[t2, (.string ⟨#[]⟩)] w fun v12 w_2 =>
  vAlloc Tryd.prog 9 w_2 fun v7 w_3 =>
  vSt (some 1) v7 v12 w_3 fun w_4 =>
  vLd .one v3 w_4 fun v13 =>
  vLd .one v7 w_4 fun v15 =>
  vLen .string v15 fun v16 =>
  CallK Tryd.prog 24 #[v13, t1, v16] w_4 fun v17 w_5 =>
  vBin (.int .i64) .neq v17 (.int .i64 0) fun v19 =>
  vBool v19 fun c => if c = true then
   (K v17 w_5)
  else
  vLd .one v7 w_5 fun v22 =>
  vLen .string v22 fun v23 =>
  CallK Tryd.prog 25 #[t1, v23] w_5 fun v24 w_6 =>
  rangeF Tryd.prog none [3, 7] [v3, v7] [25, 26] F12R1a F12R1b v24 [] w_6
  (fun ds w_10 => leaveV ds w_10 fun W => K (.int .i64 0) W)
  (fun _ _ => False)
  []

def tab12 : Tab := { sel := [(6, [3, 7])], plan := [(8, (.take 0 (.take 1 (.take 2 (.take 5 (.take 6 (.take 7 (.take 8 (.take 10 (.alt 3 (.take 4 (.take 9 (.alt 11 (.take 12 (.alt 13 .done .stop)) .stop))) .stop))))))))))], join := [] }

theorem F12_eq (t0 : Value) (t1 : Value) (t2 : Value) (w : World) (K : Value → World → Prop) : enterV Tryd.prog tab12 Tryd.f12 [t0, t1, t2] w K = F12 t0 t1 t2 w K := by kernel_rfl

theorem F12_ok {t0 : Value} {t1 : Value} {t2 : Value} {w : World} {K : Value → World → Prop} (h : F12 t0 t1 t2 w K) : Ret Tryd.prog 12 #[t0, t1, t2] w K :=
  enter_sound (T := tab12) (args := [t0, t1, t2]) Tryd.func12 Tryd.call12 mixed (by kernel_rfl) (by rw [F12_eq]; exact h)

def F13J3 (K : Value → World → Prop) (ρ : Env) (ds : List Nat) (w : World) : Prop :=
  vBool (ρ 133) fun c_12 => if c_12 = true then
   (drawF w fun S_5 =>
   vFA (some 1) (ρ 7) fun v137 =>
   vLdS S_5 .one v137 fun v138 =>
   vNilP Tryd.prog (ρ 0) fun v139 =>
   vFA (some 0) v139 fun v140 =>
   vIA (.arr 16 1) v140 v138 fun v141 =>
   vLdS S_5 .one v141 fun v142 =>
   vBin (.int .u64) .eql v142 (.int .u64 0) fun v143 =>
   vFA (some 0) (ρ 7) fun v144 =>
   vLdS S_5 .one v144 fun v145 =>
   vBin (.int .i64) .eql v145 (.int .i64 23) fun v146 =>
   vBin .bool .eql v143 v146 fun v147 =>
   vBool v147 fun c_13 => if c_13 = true then
    (vNilP Tryd.prog (ρ 0) fun v174_8 =>
  vFA (some 16) v174_8 fun v175_8 =>
  vSt (some 1) v175_8 (ρ 9) w.drew fun w_16 =>
  leaveV ds w_16 fun W => K (ρ 10) W)
   else
   vNilP Tryd.prog (ρ 0) fun v174_9 =>
  vFA (some 16) v174_9 fun v175_9 =>
  vSt (some 1) v175_9 (ρ 8) w.drew fun w_17 =>
  leaveV ds w_17 fun W => K (ρ 10) W)
  else
  vBin (.int .i64) .eql (ρ 44) (.int .i64 25) fun v150 =>
  vBool v150 fun c_14 => if c_14 = true then
   (drawF w fun S_6 =>
   vFA (some 1) (ρ 7) fun v152 =>
   vLdS S_6 .one v152 fun v153 =>
   vFA (some 2) (ρ 7) fun v155 =>
   vLdS S_6 .one v155 fun v156 =>
   vNilP Tryd.prog (ρ 0) fun v157 =>
   vFA (some 0) v157 fun v158 =>
   vIA (.arr 16 1) v158 v156 fun v159 =>
   vLdS S_6 .one v159 fun v160 =>
   vNilP Tryd.prog (ρ 0) fun v162 =>
   vFA (some 0) v162 fun v163 =>
   vIA (.arr 16 1) v163 v153 fun v164 =>
   (vSt (some 1) v164 (ρ 8) w.drew fun w_18 =>
   (vNilP Tryd.prog (ρ 0) fun v174_10 =>
  vFA (some 16) v174_10 fun v175_10 =>
  vSt (some 1) v175_10 v160 w_18 fun w_19 =>
  leaveV ds w_19 fun W => K (ρ 10) W)) ∧
   (True))
  else
  vBin (.int .i64) .eql (ρ 44) (.int .i64 26) fun v166 =>
  vBool v166 fun c_15 => if c_15 = true then
   (vNilP Tryd.prog (ρ 0) fun v168 =>
   vFA (some 0) v168 fun v169 =>
   vIA (.arr 16 1) v169 (.int .i64 15) fun v170 =>
   vLd .one v170 w fun v171 =>
   vNilP Tryd.prog (ρ 0) fun v174_11 =>
  vFA (some 16) v174_11 fun v175_11 =>
  vSt (some 1) v175_11 v171 w fun w_20 =>
  leaveV ds w_20 fun W => K (ρ 10) W)
  else
  drawF w fun S_7 =>
  vFA (some 1) (ρ 7) fun v46 =>
  vLdS S_7 .one v46 fun v47 =>
  vFA (some 0) (ρ 7) fun v48 =>
  vLdS S_7 .one v48 fun v49 =>
  vFA (some 2) (ρ 7) fun v51 =>
  vLdS S_7 .one v51 fun v52 =>
  vNilP Tryd.prog (ρ 0) fun v53 =>
  vFA (some 0) v53 fun v54 =>
  vIA (.arr 16 1) v54 v52 fun v55 =>
  vLdS S_7 .one v55 fun v56 =>
  vFA (some 3) (ρ 7) fun v58 =>
  vLdS S_7 .one v58 fun v59 =>
  vNilP Tryd.prog (ρ 0) fun v60 =>
  vFA (some 0) v60 fun v61 =>
  vIA (.arr 16 1) v61 v59 fun v62 =>
  vLdS S_7 .one v62 fun v63 =>
  vNilP Tryd.prog (ρ 0) fun v65 =>
  vFA (some 0) v65 fun v66 =>
  (CallK Tryd.prog 29 #[v49, v56, v63] w.drew fun v64 w_21 =>
  S_7 w_21 ∧ (vIA (.arr 16 1) v66 v47 fun v67 =>
  (vSt (some 1) v67 v64 w_21 fun w_22 =>
  (vNilP Tryd.prog (ρ 0) fun v174_12 =>
  vFA (some 16) v174_12 fun v175_12 =>
  vSt (some 1) v175_12 (ρ 8) w_22 fun w_23 =>
  leaveV ds w_23 fun W => K (ρ 10) W)) ∧
  (True))) ∧
  (True)

def F13J2 (K : Value → World → Prop) (ρ : Env) (ds : List Nat) (w : World) : Prop :=
  vBool (ρ 120) fun c_9 => if c_9 = true then
   (vLd (.agg 5) (ρ 7) w fun v127 =>
   CallK Tryd.prog 28 #[(ρ 0), (ρ 1), v127] w fun v128 w_13 =>
   vUn .not v128 fun v129 =>
   vBool v129 fun c_10 => if c_10 = true then
    (leaveV ds w_13 fun W => K (.int .i64 3) W)
   else
   vNilP Tryd.prog (ρ 0) fun v174_6 =>
  vFA (some 16) v174_6 fun v175_6 =>
  vSt (some 1) v175_6 (ρ 8) w_13 fun w_14 =>
  leaveV ds w_14 fun W => K (ρ 10) W)
  else
  vBin (.int .i64) .eql (ρ 44) (.int .i64 22) fun v131 =>
  vBool v131 fun c_11 => if c_11 = true then
   (vNilP Tryd.prog (ρ 0) fun v174_7 =>
  vFA (some 16) v174_7 fun v175_7 =>
  vSt (some 1) v175_7 (ρ 9) w fun w_15 =>
  leaveV ds w_15 fun W => K (ρ 10) W)
  else
  joinF [0, 7, 8, 9, 10, 44, 133] (fun J3 =>
  vBin (.int .i64) .eql (ρ 44) (.int .i64 23) fun v134 =>
  vBool v134 fun c_12 => if c_12 = true then
   (J3 [(ρ 0), (ρ 7), (ρ 8), (ρ 9), (ρ 10), (ρ 44), v134] ds w)
  else
  vBin (.int .i64) .eql (ρ 44) (.int .i64 24) fun v135 =>
  J3 [(ρ 0), (ρ 7), (ρ 8), (ρ 9), (ρ 10), (ρ 44), v135] ds w)
  (F13J3 K)

/-- gatehouse/cpu.Step -/
def F13 (t0 : Value) (t1 : Value) (w : World) (K : Value → World → Prop) : Prop :=
  drawF w fun S =>
  vNilP Tryd.prog t0 fun v14 =>
  vFA (some 16) v14 fun v15 =>
  vLdS S .one v15 fun v16 =>
  vNilP Tryd.prog (.func (.method "Load") #[t1] #[]) fun v18 =>
  (vInvoke Tryd.prog t1 "Load" [v16, (.int .i64 4), (.int .i64 2)] w.drew fun v20 w =>
  S w ∧ (vExt v20 0 fun v21 =>
  vExt v20 1 fun v22 =>
  vBin (.int .i64) .neq v22 (.int .i64 0) fun v24 =>
  vBool v24 fun c => if c = true then
   (K (.int .i64 3) w)
  else
  CallK Tryd.prog 27 #[v21] w fun v27 w_2 =>
  vExt v27 0 fun v28 =>
  vExt v27 1 fun v29 =>
  vAlloc Tryd.prog 48 w_2 fun v7 w_3 =>
  vSt (some 5) v7 v28 w_3 fun w_4 =>
  vBin (.int .i64) .neq v29 (.int .i64 0) fun v31 =>
  vBool v31 fun c_2 => if c_2 = true then
   (K (.int .i64 4) w_4)
  else
  vNilP Tryd.prog t0 fun v33 =>
  vFA (some 16) v33 fun v34 =>
  vLd .one v34 w_4 fun v35 =>
  vBin (.int .u64) .add v35 (.int .u64 4) fun v36 =>
  vFA (some 4) v7 fun v38 =>
  vLd .one v38 w_4 fun v39 =>
  vBin (.int .i64) .mul (.int .i64 4) v39 fun v40 =>
  vConv (.int .u64) v40 fun v41 =>
  vBin (.int .u64) .add v36 v41 fun v42 =>
  vFA (some 0) v7 fun v43 =>
  vLd .one v43 w_4 fun v44 =>
  vBin (.int .i64) .eql v44 (.int .i64 0) fun v69 =>
  vBool v69 fun c_3 => if c_3 = true then
   (K (.int .i64 2) w_4)
  else
  vBin (.int .i64) .eql v44 (.int .i64 1) fun v71 =>
  vBool v71 fun c_4 => if c_4 = true then
   (vNilP Tryd.prog t0 fun v174 =>
  vFA (some 16) v174 fun v175 =>
  vSt (some 1) v175 v36 w_4 fun w_5 =>
  K (.int .i64 0) w_5)
  else
  vBin (.int .i64) .eql v44 (.int .i64 2) fun v73 =>
  vBool v73 fun c_5 => if c_5 = true then
   (vNilP Tryd.prog t0 fun v174_2 =>
  vFA (some 16) v174_2 fun v175_2 =>
  vSt (some 1) v175_2 v36 w_4 fun w_6 =>
  K (.int .i64 1) w_6)
  else
  vBin (.int .i64) .eql v44 (.int .i64 3) fun v75 =>
  vBool v75 fun c_6 => if c_6 = true then
   (drawF w_4 fun S_2 =>
   vFA (some 1) v7 fun v77 =>
   vLdS S_2 .one v77 fun v78 =>
   vFA (some 4) v7 fun v79 =>
   vLdS S_2 .one v79 fun v80 =>
   vConv (.int .u64) v80 fun v81 =>
   vNilP Tryd.prog t0 fun v82 =>
   vFA (some 0) v82 fun v83 =>
   vIA (.arr 16 1) v83 v78 fun v84 =>
   (vSt (some 1) v84 v81 w_4.drew fun w_7 =>
   (vNilP Tryd.prog t0 fun v174_3 =>
  vFA (some 16) v174_3 fun v175_3 =>
  vSt (some 1) v175_3 v36 w_7 fun w_8 =>
  K (.int .i64 0) w_8)) ∧
   (True))
  else
  vBin (.int .i64) .eql v44 (.int .i64 4) fun v86 =>
  vBool v86 fun c_7 => if c_7 = true then
   (drawF w_4 fun S_3 =>
   vFA (some 1) v7 fun v88 =>
   vLdS S_3 .one v88 fun v89 =>
   vFA (some 1) v7 fun v91 =>
   vLdS S_3 .one v91 fun v92 =>
   vNilP Tryd.prog t0 fun v93 =>
   vFA (some 0) v93 fun v94 =>
   vIA (.arr 16 1) v94 v92 fun v95 =>
   vLdS S_3 .one v95 fun v96 =>
   vBin (.int .u64) .shl v96 (.int .u64 16) fun v97 =>
   vFA (some 4) v7 fun v98 =>
   vLdS S_3 .one v98 fun v99 =>
   vConv (.int .u64) v99 fun v100 =>
   vBin (.int .u64) .or v97 v100 fun v101 =>
   vNilP Tryd.prog t0 fun v102 =>
   vFA (some 0) v102 fun v103 =>
   vIA (.arr 16 1) v103 v89 fun v104 =>
   (vSt (some 1) v104 v101 w_4.drew fun w_9 =>
   (vNilP Tryd.prog t0 fun v174_4 =>
  vFA (some 16) v174_4 fun v175_4 =>
  vSt (some 1) v175_4 v36 w_9 fun w_10 =>
  K (.int .i64 0) w_10)) ∧
   (True))
  else
  vBin (.int .i64) .eql v44 (.int .i64 5) fun v106 =>
  vBool v106 fun c_8 => if c_8 = true then
   (drawF w_4 fun S_4 =>
   vFA (some 1) v7 fun v108 =>
   vLdS S_4 .one v108 fun v109 =>
   vFA (some 2) v7 fun v111 =>
   vLdS S_4 .one v111 fun v112 =>
   vNilP Tryd.prog t0 fun v113 =>
   vFA (some 0) v113 fun v114 =>
   vIA (.arr 16 1) v114 v112 fun v115 =>
   vLdS S_4 .one v115 fun v116 =>
   vNilP Tryd.prog t0 fun v117 =>
   vFA (some 0) v117 fun v118 =>
   vIA (.arr 16 1) v118 v109 fun v119 =>
   (vSt (some 1) v119 v116 w_4.drew fun w_11 =>
   (vNilP Tryd.prog t0 fun v174_5 =>
  vFA (some 16) v174_5 fun v175_5 =>
  vSt (some 1) v175_5 v36 w_11 fun w_12 =>
  K (.int .i64 0) w_12)) ∧
   (True))
  else
  joinF [0, 1, 7, 8, 9, 10, 44, 120] (fun J2 =>
  vBin (.int .i64) .eql v44 (.int .i64 18) fun v121 =>
  vBool v121 fun c_9 => if c_9 = true then
   (J2 [t0, t1, v7, v36, v42, (.int .i64 0), v44, v121] [] w_4)
  else
  vBin (.int .i64) .eql v44 (.int .i64 19) fun v122 =>
  vBool v122 fun c_10 => if c_10 = true then
   (J2 [t0, t1, v7, v36, v42, (.int .i64 0), v44, v122] [] w_4)
  else
  vBin (.int .i64) .eql v44 (.int .i64 20) fun v123 =>
  vBool v123 fun c_11 => if c_11 = true then
   (J2 [t0, t1, v7, v36, v42, (.int .i64 0), v44, v123] [] w_4)
  else
  vBin (.int .i64) .eql v44 (.int .i64 21) fun v124 =>
  J2 [t0, t1, v7, v36, v42, (.int .i64 0), v44, v124] [] w_4)
  (F13J2 K))) ∧
  (True)

def tab13 : Tab := { sel := [], plan := [(1, (.take 0 (.take 1 (.take 2 (.take 3 (.take 4 (.take 5 (.take 6 (.take 7 (.alt 8 (.take 9 (.take 10 (.take 11 (.take 12 (.take 13 .done))))) .stop)))))))))), (18, (.take 0 (.take 1 (.take 2 (.take 3 (.take 4 (.take 5 (.take 6 (.take 7 (.take 8 (.alt 9 .done .stop))))))))))), (20, (.take 0 (.take 1 (.take 2 (.take 3 (.take 4 (.take 5 (.take 6 (.take 7 (.take 8 (.take 9 (.take 10 (.take 11 (.take 12 (.take 13 (.take 14 (.take 15 (.take 16 (.take 17 (.alt 18 .done .stop)))))))))))))))))))), (22, (.take 0 (.take 1 (.take 2 (.take 3 (.take 4 (.take 5 (.take 6 (.take 7 (.take 8 (.take 9 (.take 10 (.take 11 (.take 12 (.alt 13 .done .stop))))))))))))))), (33, (.take 0 (.take 1 (.take 2 (.take 3 (.take 4 (.take 5 (.take 6 (.take 7 (.take 8 (.take 9 (.take 10 (.take 11 .done))))))))))))), (36, (.take 0 (.take 1 (.take 2 (.take 3 (.take 4 (.take 5 (.take 6 (.take 7 (.take 8 (.take 9 (.take 10 (.take 11 (.take 12 (.take 13 (.take 14 (.alt 15 .done .stop))))))))))))))))), (11, (.take 0 (.take 1 (.take 2 (.take 3 (.take 4 (.take 5 (.take 6 (.take 7 (.take 8 (.take 9 (.take 10 (.take 11 (.take 12 (.take 13 (.take 14 (.take 15 (.take 16 (.take 17 (.take 18 (.take 20 (.take 21 (.alt 19 (.take 22 (.alt 23 .done .stop)) .stop)))))))))))))))))))))))], join := [(33, [0, 7, 8, 9, 10, 44, 133]), (27, [0, 1, 7, 8, 9, 10, 44, 120])] }

theorem F13_eq (t0 : Value) (t1 : Value) (w : World) (K : Value → World → Prop) : enterV Tryd.prog tab13 Tryd.f13 [t0, t1] w K = F13 t0 t1 w K := by kernel_rfl

theorem F13_ok {t0 : Value} {t1 : Value} {w : World} {K : Value → World → Prop} (h : F13 t0 t1 w K) : Ret Tryd.prog 13 #[t0, t1] w K :=
  enter_sound (T := tab13) (args := [t0, t1]) Tryd.func13 Tryd.call13 mixed (by kernel_rfl) (by rw [F13_eq]; exact h)

def F14L1 (K : Value → World → Prop) (ρ : Env) (ds : List Nat) (w : World) (ag1 : List Value → List Nat → World → Prop) : Prop :=
  vBin (.int .i64) .lss (ρ 13) (ρ 12) fun v14 =>
  vBool v14 fun c => if c = true then
   (vBuild Tryd.prog 78 [(0, (ρ 0))] fun v17 =>
  vIface true 78 v17 fun v18 =>
  CallK Tryd.prog 13 #[(ρ 4), v18] w fun v19 w_3 =>
  vBin (.int .i64) .neq v19 (.int .i64 0) fun v21 =>
  vBool v21 fun c_2 => if c_2 = true then
   (vLd (.agg 17) (ρ 4) w_3 fun v22 =>
   vSt (some 17) (ρ 6) v22 w_3 fun w_4 =>
   leaveV ds w_4 fun W => vLd (.agg 17) (ρ 6) W fun r => K (.tuple #[r, (ρ 13), v19]) W)
  else
  vBin (.int .i64) .add (ρ 13) (.int .i64 1) fun v25 =>
  ag1 [(ρ 0), (ρ 2), (ρ 4), (ρ 6), (ρ 12), v25] ds w_3)
  else
  vLd (.agg 17) (ρ 4) w fun v26 =>
  vMax (ρ 2) [(.int .i64 0)] fun v28 =>
  vSt (some 17) (ρ 6) v26 w fun w_5 =>
  leaveV ds w_5 fun W => vLd (.agg 17) (ρ 6) W fun r_2 => K (.tuple #[r_2, v28, (.int .i64 0)]) W

/-- gatehouse/cpu.Over -/
def F14 (t0 : Value) (t1 : Value) (t2 : Value) (w : World) (K : Value → World → Prop) : Prop :=
  vBox 25 t1 w fun v4 w =>
  vAlloc Tryd.prog 25 w fun v6 w_2 =>
  vMax t2 [(.int .i64 0)] fun v12 =>
  loopF [0, 2, 4, 6, 12, 13] [t0, t2, v4, v6, v12, (.int .i64 0)] [] w_2 (F14L1 K)

def tab14 : Tab := { sel := [(2, [0, 2, 4, 6, 12, 13])], plan := [], join := [] }

theorem F14_eq (t0 : Value) (t1 : Value) (t2 : Value) (w : World) (K : Value → World → Prop) : enterV Tryd.prog tab14 Tryd.f14 [t0, t1, t2] w K = F14 t0 t1 t2 w K := by kernel_rfl

theorem F14_ok {t0 : Value} {t1 : Value} {t2 : Value} {w : World} {K : Value → World → Prop} (h : F14 t0 t1 t2 w K) : Ret Tryd.prog 14 #[t0, t1, t2] w K :=
  enter_sound (T := tab14) (args := [t0, t1, t2]) Tryd.func14 Tryd.call14 mixed (by kernel_rfl) (by rw [F14_eq]; exact h)

def F15R1a (r : Option Nat) (ρ : Env) (w : World) (Q : QV) : Prop :=
  vAlloc Tryd.prog 68 w fun v11 w_5 =>
  vSt (some 2) v11 (ρ 23) w_5 fun w_6 =>
  Q .normal (put (put ρ (some 10) (ρ 22)) (some 11) v11) [] w_6

def F15R1b (r : Option Nat) (ρ : Env) (w : World) (Q1 : Exit → World → Prop) : Prop :=
  drawF w fun S =>
  vLdS S .one (ρ 3) fun v24 =>
  vNilP Tryd.prog v24 fun v25 =>
  vFA (some 1) v25 fun v26 =>
  vLdS S .one v26 fun v27 =>
  vIA (.slice 1) v27 (ρ 10) fun v29 =>
  vLdS S .one v29 fun v30 =>
  vNilP Tryd.prog v30 fun v31 =>
  vIA (.arr 2 1) (ρ 11) (.int .i64 0) fun v32 =>
  vLdS S .one v32 fun v33 =>
  vIA (.arr 2 1) (ρ 11) (.int .i64 1) fun v34 =>
  vLdS S .one v34 fun v35 =>
  vSlice (.arr 64 1) v31 (some v33) (some v35) fun v36 =>
  (CallK Tryd.prog 30 #[(ρ 9), v36] w.drew fun v37 w_5 =>
  S w_5 ∧ (Q1 .normal w_5)) ∧
  (True)

/-- (*gatehouse/pages.Bytes).Read -/
def F15 (t0 : Value) (t1 : Value) (t2 : Value) (w : World) (K : Value → World → Prop) : Prop :=
  vBox 27 t0 w fun v3 w =>
  vLd .one v3 w fun v12 =>
  CallK Tryd.prog 24 #[v12, t1, t2] w fun v15 w_2 =>
  vBin (.int .i64) .neq v15 (.int .i64 0) fun v17 =>
  vBool v17 fun c => if c = true then
   (K (.tuple #[(.string ⟨#[]⟩), v15]) w_2)
  else
  vAlloc Tryd.prog 81 w_2 fun v9 w_3 =>
  CallK Tryd.prog 25 #[t1, t2] w_3 fun v21 w_4 =>
  rangeF Tryd.prog none [3, 9] [v3, v9] [22, 23] F15R1a F15R1b v21 [] w_4
  (fun ds w_6 => CallK Tryd.prog 31 #[v9] w_6 fun v38 w_7 =>
  leaveV ds w_7 fun W => K (.tuple #[v38, (.int .i64 0)]) W)
  (fun _ _ => False)
  []

def tab15 : Tab := { sel := [(6, [3, 9])], plan := [(8, (.take 0 (.take 1 (.take 2 (.take 3 (.take 4 (.take 5 (.take 6 (.take 7 (.take 8 (.take 9 (.take 10 (.take 11 (.take 12 (.alt 13 .done .stop)))))))))))))))], join := [] }

theorem F15_eq (t0 : Value) (t1 : Value) (t2 : Value) (w : World) (K : Value → World → Prop) : enterV Tryd.prog tab15 Tryd.f15 [t0, t1, t2] w K = F15 t0 t1 t2 w K := by kernel_rfl

theorem F15_ok {t0 : Value} {t1 : Value} {t2 : Value} {w : World} {K : Value → World → Prop} (h : F15 t0 t1 t2 w K) : Ret Tryd.prog 15 #[t0, t1, t2] w K :=
  enter_sound (T := tab15) (args := [t0, t1, t2]) Tryd.func15 Tryd.call15 mixed (by kernel_rfl) (by rw [F15_eq]; exact h)

/-- gatehouse/gatehouselaw06.memory -/
def F16 (t0 : Value) (w : World) (K : Value → World → Prop) : Prop :=
  vLen .string t0 fun v7 =>
  vMin v7 [(.int .i64 4096)] fun v8 =>
  vSlice .string t0 none (some v8) fun v9 =>
  vLen .string v9 fun v12 =>
  CallK Tryd.prog 11 #[v12] w fun v13 w =>
  vExt v13 0 fun v14 =>
  vExt v13 1 fun v15 =>
  vBin (.int .i64) .neq v15 (.int .i64 0) fun v17 =>
  vBool v17 fun g => if g = true then
  (K (.pointer none) w)
  else
  (vBuildSlice Tryd.prog 63 1 [(0, v9)] w fun v21 w_2 =>
  CallK Tryd.prog 12 #[v14, (.int .i64 0), v21] w_2 fun v22 w_3 =>
  vBin (.int .i64) .neq v22 (.int .i64 0) fun v23 =>
  vBool v23 fun c => if c = true then
   (K (.pointer none) w_3)
  else
  K v14 w_3)

def tab16 : Tab := { sel := [], plan := [], join := [] }

theorem F16_eq (t0 : Value) (w : World) (K : Value → World → Prop) : enterV Tryd.prog tab16 Tryd.f16 [t0] w K = F16 t0 w K := by kernel_rfl

theorem F16_ok {t0 : Value} {w : World} {K : Value → World → Prop} (h : F16 t0 w K) : Ret Tryd.prog 16 #[t0] w K :=
  enter_sound (T := tab16) (args := [t0]) Tryd.func16 Tryd.call16 mixed (by kernel_rfl) (by rw [F16_eq]; exact h)

def F17L1 (K : Value → World → Prop) (ρ : Env) (ds : List Nat) (w : World) (ag1 : List Value → List Nat → World → Prop) : Prop :=
  vBin (.int .i64) .lss (ρ 10) (ρ 2) fun v16 =>
  vBool v16 fun c => if c = true then
   (vLd (.agg 17) (ρ 4) w fun v20 =>
  CallK Tryd.prog 32 #[v20, (ρ 0)] w fun v22 w_3 =>
  vExt v22 0 fun v23 =>
  vExt v22 1 fun v24 =>
  vExt v22 2 fun v25 =>
  vAlloc Tryd.prog 25 w_3 fun v11 w_4 =>
  vSt (some 17) v11 v23 w_4 fun w_5 =>
  vLd (.agg 17) v11 w_5 fun v26 =>
  vSt (some 17) (ρ 4) v26 w_5 fun w_6 =>
  vBin (.int .i64) .neq v25 (.int .i64 0) fun v29 =>
  vBool v29 fun c_2 => if c_2 = true then
   (vLd (.agg 17) (ρ 4) w_6 fun v30 =>
   vSt (some 17) (ρ 6) v30 w_6 fun w_7 =>
   leaveV ds w_7 fun W => vLd (.agg 17) (ρ 6) W fun r => K (.tuple #[r, v24, (ρ 10), v25]) W)
  else
  vBin (.int .i64) .add (ρ 10) (.int .i64 1) fun v18 =>
  ag1 [v24, (ρ 2), (ρ 4), (ρ 6), v18] ds w_6)
  else
  vLd (.agg 17) (ρ 4) w fun v34 =>
  vMax (ρ 2) [(.int .i64 0)] fun v37 =>
  vSt (some 17) (ρ 6) v34 w fun w_8 =>
  leaveV ds w_8 fun W => vLd (.agg 17) (ρ 6) W fun r_2 => K (.tuple #[r_2, (ρ 0), v37, (.int .i64 0)]) W

/-- gatehouse/gatehouseref06.Over -/
def F17 (t0 : Value) (t1 : Value) (t2 : Value) (w : World) (K : Value → World → Prop) : Prop :=
  vBox 25 t1 w fun v4 w =>
  vAlloc Tryd.prog 25 w fun v6 w_2 =>
  loopF [0, 2, 4, 6, 10] [t0, t2, v4, v6, (.int .i64 0)] [] w_2 (F17L1 K)

def tab17 : Tab := { sel := [(2, [0, 2, 4, 6, 10])], plan := [], join := [] }

theorem F17_eq (t0 : Value) (t1 : Value) (t2 : Value) (w : World) (K : Value → World → Prop) : enterV Tryd.prog tab17 Tryd.f17 [t0, t1, t2] w K = F17 t0 t1 t2 w K := by kernel_rfl

theorem F17_ok {t0 : Value} {t1 : Value} {t2 : Value} {w : World} {K : Value → World → Prop} (h : F17 t0 t1 t2 w K) : Ret Tryd.prog 17 #[t0, t1, t2] w K :=
  enter_sound (T := tab17) (args := [t0, t1, t2]) Tryd.func17 Tryd.call17 mixed (by kernel_rfl) (by rw [F17_eq]; exact h)

/-- gatehouse/gatehouselaw06.all -/
def F18 (t0 : Value) (w : World) (K : Value → World → Prop) : Prop :=
  CallK Tryd.prog 33 #[t0] w fun v8 w =>
  CallK Tryd.prog 15 #[t0, (.int .i64 0), v8] w fun v9 w_2 =>
  vExt v9 0 fun v10 =>
  vExt v9 1 fun v11 =>
  K v10 w_2

def tab18 : Tab := { sel := [], plan := [], join := [] }

theorem F18_eq (t0 : Value) (w : World) (K : Value → World → Prop) : enterV Tryd.prog tab18 Tryd.f18 [t0] w K = F18 t0 w K := by kernel_rfl

theorem F18_ok {t0 : Value} {w : World} {K : Value → World → Prop} (h : F18 t0 w K) : Ret Tryd.prog 18 #[t0] w K :=
  enter_sound (T := tab18) (args := [t0]) Tryd.func18 Tryd.call18 mixed (by kernel_rfl) (by rw [F18_eq]; exact h)

/-- gatehouse/gatehouseref02.Right -/
def F19 (t0 : Value) (w : World) (K : Value → World → Prop) : Prop :=
  vBox 48 t0 w fun v1 w =>
  vFA (some 0) v1 fun v3 =>
  vLd .one v3 w fun v4 =>
  CallK Tryd.prog 34 #[v4] w fun v5 w_2 =>
  vBin .string .eql v5 (.string ⟨#[]⟩) fun v6 =>
  vBool v6 fun c => if c = true then
   (K (.bool false) w_2)
  else
  vFA (some 0) v1 fun v7 =>
  vLd .one v7 w_2 fun v8 =>
  CallK Tryd.prog 35 #[v8] w_2 fun v9 w_3 =>
  vBin (.int .i64) .eql v9 (.int .i64 1) fun v11 =>
  vBool v11 fun c_2 => if c_2 = true then
   (vFA (some 1) v1 fun v12 =>
   vLd .one v12 w_3 fun v13 =>
   CallK Tryd.prog 36 #[v13] w_3 fun v14 w_4 =>
   vBool v14 fun g => if g = true then
   (vFA (some 2) v1 fun v16 =>
   vLd .one v16 w_4 fun v17 =>
   vBin (.int .i64) .eql v17 (.int .i64 0) fun v18 =>
   vBool v18 fun g_2 => if g_2 = true then
   (vFA (some 3) v1 fun v21 =>
   vLd .one v21 w_4 fun v22 =>
   vBin (.int .i64) .eql v22 (.int .i64 0) fun v23 =>
   vBool v23 fun g_3 => if g_3 = true then
   (vFA (some 4) v1 fun v26 =>
   vLd .one v26 w_4 fun v27 =>
   vBin (.int .i64) .geq v27 (.int .i64 0) fun v28 =>
   vBool v28 fun g_4 => if g_4 = true then
   (vFA (some 4) v1 fun v31 =>
   vLd .one v31 w_4 fun v32 =>
   vBin (.int .i64) .leq v32 (.int .i64 65535) fun v33 =>
   K v33 w_4)
   else
   (K (.bool false) w_4))
   else
   (K (.bool false) w_4))
   else
   (K (.bool false) w_4))
   else
   (K (.bool false) w_4))
  else
  vBin (.int .i64) .eql v9 (.int .i64 2) fun v36 =>
  vBool v36 fun c_3 => if c_3 = true then
   (vFA (some 1) v1 fun v37 =>
   vLd .one v37 w_3 fun v38 =>
   CallK Tryd.prog 36 #[v38] w_3 fun v39 w_5 =>
   vBool v39 fun g_5 => if g_5 = true then
   (vFA (some 2) v1 fun v41 =>
   vLd .one v41 w_5 fun v42 =>
   CallK Tryd.prog 36 #[v42] w_5 fun v43 w_6 =>
   vBool v43 fun g_6 => if g_6 = true then
   (vFA (some 3) v1 fun v46 =>
   vLd .one v46 w_6 fun v47 =>
   vBin (.int .i64) .eql v47 (.int .i64 0) fun v48 =>
   vBool v48 fun g_7 => if g_7 = true then
   (vFA (some 4) v1 fun v51 =>
   vLd .one v51 w_6 fun v52 =>
   vBin (.int .i64) .eql v52 (.int .i64 0) fun v53 =>
   K v53 w_6)
   else
   (K (.bool false) w_6))
   else
   (K (.bool false) w_6))
   else
   (K (.bool false) w_5))
  else
  vBin (.int .i64) .eql v9 (.int .i64 3) fun v56 =>
  vBool v56 fun c_4 => if c_4 = true then
   (vFA (some 1) v1 fun v57 =>
   vLd .one v57 w_3 fun v58 =>
   CallK Tryd.prog 36 #[v58] w_3 fun v59 w_7 =>
   vBool v59 fun g_8 => if g_8 = true then
   (vFA (some 2) v1 fun v61 =>
   vLd .one v61 w_7 fun v62 =>
   CallK Tryd.prog 36 #[v62] w_7 fun v63 w_8 =>
   vBool v63 fun g_9 => if g_9 = true then
   (vFA (some 3) v1 fun v66 =>
   vLd .one v66 w_8 fun v67 =>
   CallK Tryd.prog 36 #[v67] w_8 fun v68 w_9 =>
   vBool v68 fun g_10 => if g_10 = true then
   (vFA (some 4) v1 fun v71 =>
   vLd .one v71 w_9 fun v72 =>
   vBin (.int .i64) .eql v72 (.int .i64 0) fun v73 =>
   K v73 w_9)
   else
   (K (.bool false) w_9))
   else
   (K (.bool false) w_8))
   else
   (K (.bool false) w_7))
  else
  vBin (.int .i64) .eql v9 (.int .i64 4) fun v76 =>
  vBool v76 fun c_5 => if c_5 = true then
   (vFA (some 1) v1 fun v77 =>
   vLd .one v77 w_3 fun v78 =>
   CallK Tryd.prog 36 #[v78] w_3 fun v79 w_10 =>
   vBool v79 fun g_11 => if g_11 = true then
   (vFA (some 2) v1 fun v81 =>
   vLd .one v81 w_10 fun v82 =>
   CallK Tryd.prog 36 #[v82] w_10 fun v83 w_11 =>
   vBool v83 fun g_12 => if g_12 = true then
   (vFA (some 3) v1 fun v86 =>
   vLd .one v86 w_11 fun v87 =>
   vBin (.int .i64) .eql v87 (.int .i64 0) fun v88 =>
   vBool v88 fun g_13 => if g_13 = true then
   (vFA (some 4) v1 fun v91 =>
   vLd .one v91 w_11 fun v92 =>
   vBin (.int .i64) .geq v92 (.int .i64 0) fun v93 =>
   vBool v93 fun g_14 => if g_14 = true then
   (vFA (some 4) v1 fun v96 =>
   vLd .one v96 w_11 fun v97 =>
   vBin (.int .i64) .leq v97 (.int .i64 255) fun v98 =>
   K v98 w_11)
   else
   (K (.bool false) w_11))
   else
   (K (.bool false) w_11))
   else
   (K (.bool false) w_11))
   else
   (K (.bool false) w_10))
  else
  vBin (.int .i64) .eql v9 (.int .i64 5) fun v101 =>
  vBool v101 fun c_6 => if c_6 = true then
   (vFA (some 1) v1 fun v102 =>
   vLd .one v102 w_3 fun v103 =>
   vBin (.int .i64) .eql v103 (.int .i64 0) fun v104 =>
   vBool v104 fun g_15 => if g_15 = true then
   (vFA (some 2) v1 fun v106 =>
   vLd .one v106 w_3 fun v107 =>
   vBin (.int .i64) .eql v107 (.int .i64 0) fun v108 =>
   vBool v108 fun g_16 => if g_16 = true then
   (vFA (some 3) v1 fun v111 =>
   vLd .one v111 w_3 fun v112 =>
   vBin (.int .i64) .eql v112 (.int .i64 0) fun v113 =>
   vBool v113 fun g_17 => if g_17 = true then
   (vFA (some 4) v1 fun v116 =>
   vLd .one v116 w_3 fun v117 =>
   CallK Tryd.prog 37 #[v117] w_3 fun v118 w_12 =>
   K v118 w_12)
   else
   (K (.bool false) w_3))
   else
   (K (.bool false) w_3))
   else
   (K (.bool false) w_3))
  else
  vBin (.int .i64) .eql v9 (.int .i64 6) fun v121 =>
  vBool v121 fun c_7 => if c_7 = true then
   (vFA (some 1) v1 fun v122 =>
   vLd .one v122 w_3 fun v123 =>
   CallK Tryd.prog 36 #[v123] w_3 fun v124 w_13 =>
   vBool v124 fun g_18 => if g_18 = true then
   (vFA (some 2) v1 fun v126 =>
   vLd .one v126 w_13 fun v127 =>
   vBin (.int .i64) .eql v127 (.int .i64 0) fun v128 =>
   vBool v128 fun g_19 => if g_19 = true then
   (vFA (some 3) v1 fun v131 =>
   vLd .one v131 w_13 fun v132 =>
   vBin (.int .i64) .eql v132 (.int .i64 0) fun v133 =>
   vBool v133 fun g_20 => if g_20 = true then
   (vFA (some 4) v1 fun v136 =>
   vLd .one v136 w_13 fun v137 =>
   CallK Tryd.prog 37 #[v137] w_13 fun v138 w_14 =>
   K v138 w_14)
   else
   (K (.bool false) w_13))
   else
   (K (.bool false) w_13))
   else
   (K (.bool false) w_13))
  else
  vFA (some 1) v1 fun v140 =>
  vLd .one v140 w_3 fun v141 =>
  vBin (.int .i64) .eql v141 (.int .i64 0) fun v142 =>
  vBool v142 fun g_21 => if g_21 = true then
  (vFA (some 2) v1 fun v144 =>
  vLd .one v144 w_3 fun v145 =>
  vBin (.int .i64) .eql v145 (.int .i64 0) fun v146 =>
  vBool v146 fun g_22 => if g_22 = true then
  (vFA (some 3) v1 fun v149 =>
  vLd .one v149 w_3 fun v150 =>
  vBin (.int .i64) .eql v150 (.int .i64 0) fun v151 =>
  vBool v151 fun g_23 => if g_23 = true then
  (vFA (some 4) v1 fun v154 =>
  vLd .one v154 w_3 fun v155 =>
  vBin (.int .i64) .eql v155 (.int .i64 0) fun v156 =>
  K v156 w_3)
  else
  (K (.bool false) w_3))
  else
  (K (.bool false) w_3))
  else
  (K (.bool false) w_3)

def tab19 : Tab := { sel := [], plan := [], join := [] }

theorem F19_eq (t0 : Value) (w : World) (K : Value → World → Prop) : enterV Tryd.prog tab19 Tryd.f19 [t0] w K = F19 t0 w K := by kernel_rfl

theorem F19_ok {t0 : Value} {w : World} {K : Value → World → Prop} (h : F19 t0 w K) : Ret Tryd.prog 19 #[t0] w K :=
  enter_sound (T := tab19) (args := [t0]) Tryd.func19 Tryd.call19 mixed (by kernel_rfl) (by rw [F19_eq]; exact h)

def F20J3 (K : Value → World → Prop) (ρ : Env) (ds : List Nat) (w : World) : Prop :=
  vBool (ρ 27) fun c => if c = true then
   (vBin (.int .i64) .rem (ρ 4) (.int .i64 256) fun v33 =>
   vConv (.int .u8) v33 fun v34 =>
   vIA (.slice 1) (ρ 3) (.int .i64 2) fun v35 =>
   vSt (some 1) v35 v34 w fun w_4 =>
   vBin (.int .i64) .quo (ρ 4) (.int .i64 256) fun v38 =>
   vConv (.int .u8) v38 fun v39 =>
   vIA (.slice 1) (ρ 3) (.int .i64 3) fun v40 =>
   vSt (some 1) v40 v39 w_4 fun w_5 =>
   vB2S (ρ 3) w_5 fun v48 =>
  leaveV ds w_5 fun W => K v48 W)
  else
  vBin (.int .i64) .eql (ρ 26) (.int .i64 4) fun v42 =>
  vBool v42 fun c_2 => if c_2 = true then
   (vConv (.int .u8) (ρ 4) fun v45 =>
   vIA (.slice 1) (ρ 3) (.int .i64 3) fun v46 =>
   vSt (some 1) v46 v45 w fun w_6 =>
   vB2S (ρ 3) w_6 fun v48_2 =>
  leaveV ds w_6 fun W => K v48_2 W)
  else
  vB2S (ρ 3) w fun v48_3 =>
  leaveV ds w fun W => K v48_3 W

def F20J1 (K : Value → World → Prop) (ρ : Env) (ds : List Nat) (w : World) : Prop :=
  vFA (some 0) (ρ 1) fun v24 =>
  vLd .one v24 w fun v25 =>
  CallK Tryd.prog 35 #[v25] w fun v26 w_3 =>
  joinF [3, 4, 26, 27] (fun J3 =>
  vBin (.int .i64) .eql v26 (.int .i64 1) fun v28 =>
  vBool v28 fun c => if c = true then
   (J3 [(ρ 3), (ρ 4), v26, v28] ds w_3)
  else
  vBin (.int .i64) .eql v26 (.int .i64 5) fun v29 =>
  vBool v29 fun c_2 => if c_2 = true then
   (J3 [(ρ 3), (ρ 4), v26, v29] ds w_3)
  else
  vBin (.int .i64) .eql v26 (.int .i64 6) fun v30 =>
  J3 [(ρ 3), (ρ 4), v26, v30] ds w_3)
  (F20J3 K)

/-- gatehouse/gatehouseref02.Encode -/
def F20 (t0 : Value) (w : World) (K : Value → World → Prop) : Prop :=
  vBox 48 t0 w fun v1 w =>
  vFA (some 0) v1 fun v5 =>
  vLd .one v5 w fun v6 =>
  vConv (.int .u8) v6 fun v7 =>
  vFA (some 1) v1 fun v8 =>
  vLd .one v8 w fun v9 =>
  vConv (.int .u8) v9 fun v10 =>
  vFA (some 2) v1 fun v11 =>
  vLd .one v11 w fun v12 =>
  vConv (.int .u8) v12 fun v13 =>
  vFA (some 3) v1 fun v14 =>
  vLd .one v14 w fun v15 =>
  vConv (.int .u8) v15 fun v16 =>
  vBuildSlice Tryd.prog 42 4 [(0, v7), (1, v10), (2, v13), (3, v16)] w fun v17 w_2 =>
  vFA (some 4) v1 fun v18 =>
  vLd .one v18 w_2 fun v19 =>
  joinF [1, 3, 4] (fun J1 =>
  vBin (.int .i64) .lss v19 (.int .i64 0) fun v21 =>
  vBool v21 fun c => if c = true then
   (vBin (.int .i64) .add v19 (.int .i64 65536) fun v23 =>
   J1 [v1, v17, v23] [] w_2)
  else
  J1 [v1, v17, v19] [] w_2)
  (F20J1 K)

def tab20 : Tab := { sel := [], plan := [], join := [(9, [3, 4, 26, 27]), (5, [1, 3, 4])] }

theorem F20_eq (t0 : Value) (w : World) (K : Value → World → Prop) : enterV Tryd.prog tab20 Tryd.f20 [t0] w K = F20 t0 w K := by kernel_rfl

theorem F20_ok {t0 : Value} {w : World} {K : Value → World → Prop} (h : F20 t0 w K) : Ret Tryd.prog 20 #[t0] w K :=
  enter_sound (T := tab20) (args := [t0]) Tryd.func20 Tryd.call20 mixed (by kernel_rfl) (by rw [F20_eq]; exact h)

def F21L1 (K : Value → World → Prop) (ρ : Env) (ds : List Nat) (w : World) (ag1 : List Value → List Nat → World → Prop) : Prop :=
  vBin (.int .u64) .lss (ρ 8) (ρ 2) fun v70 =>
  vBool v70 fun c_13 => if c_13 = true then
   (vBin (.int .u64) .mul (ρ 1) (.int .u64 2) fun v74 =>
  vBin (.int .u64) .add (ρ 8) (.int .u64 1) fun v72 =>
  ag1 [v74, (ρ 2), v72] ds w)
  else
  leaveV ds w fun W => K (ρ 1) W

def F21L2 (K : Value → World → Prop) (ρ : Env) (ds : List Nat) (w : World) (ag2 : List Value → List Nat → World → Prop) : Prop :=
  vBin (.int .u64) .lss (ρ 9) (ρ 2) fun v82 =>
  vBool v82 fun c_16 => if c_16 = true then
   (vBin (.int .u64) .quo (ρ 1) (.int .u64 2) fun v86 =>
  vBin (.int .u64) .add (ρ 9) (.int .u64 1) fun v84 =>
  ag2 [v86, (ρ 2), v84] ds w)
  else
  leaveV ds w fun W => K (ρ 1) W

/-- gatehouse/gatehouseref06.Reckon -/
def F21 (t0 : Value) (t1 : Value) (t2 : Value) (w : World) (K : Value → World → Prop) : Prop :=
  vBin (.int .i64) .eql t0 (.int .i64 6) fun v12 =>
  vBool v12 fun c => if c = true then
   (vBin (.int .u64) .add t1 t2 fun v15 =>
   K v15 w)
  else
  vBin (.int .i64) .eql t0 (.int .i64 7) fun v17 =>
  vBool v17 fun c_2 => if c_2 = true then
   (vBin (.int .u64) .sub t1 t2 fun v20 =>
   K v20 w)
  else
  vBin (.int .i64) .eql t0 (.int .i64 8) fun v22 =>
  vBool v22 fun c_3 => if c_3 = true then
   (vBin (.int .u64) .mul t1 t2 fun v25 =>
   K v25 w)
  else
  vBin (.int .i64) .eql t0 (.int .i64 9) fun v27 =>
  vBool v27 fun c_4 => if c_4 = true then
   (vBin (.int .u64) .eql t2 (.int .u64 0) fun v29 =>
   vBool v29 fun c_5 => if c_5 = true then
    (K (.int .u64 18446744073709551615) w)
   else
   vBin (.int .u64) .quo t1 t2 fun v32 =>
   K v32 w)
  else
  vBin (.int .i64) .eql t0 (.int .i64 10) fun v34 =>
  vBool v34 fun c_6 => if c_6 = true then
   (vBin (.int .u64) .eql t2 (.int .u64 0) fun v36 =>
   vBool v36 fun c_7 => if c_7 = true then
    (K t1 w)
   else
   vBin (.int .u64) .quo t1 t2 fun v41 =>
   vBin (.int .u64) .mul v41 t2 fun v43 =>
   vBin (.int .u64) .sub t1 v43 fun v44 =>
   K v44 w)
  else
  vBin (.int .i64) .eql t0 (.int .i64 11) fun v46 =>
  vBool v46 fun c_8 => if c_8 = true then
   (vBin (.int .u64) .and t1 t2 fun v49 =>
   K v49 w)
  else
  vBin (.int .i64) .eql t0 (.int .i64 12) fun v51 =>
  vBool v51 fun c_9 => if c_9 = true then
   (vBin (.int .u64) .or t1 t2 fun v54 =>
   K v54 w)
  else
  vBin (.int .i64) .eql t0 (.int .i64 13) fun v56 =>
  vBool v56 fun c_10 => if c_10 = true then
   (vBin (.int .u64) .andNot t1 t2 fun v59 =>
   vBin (.int .u64) .andNot t2 t1 fun v62 =>
   vBin (.int .u64) .or v59 v62 fun v63 =>
   K v63 w)
  else
  vBin (.int .i64) .eql t0 (.int .i64 14) fun v65 =>
  vBool v65 fun c_11 => if c_11 = true then
   (vBin (.int .u64) .geq t2 (.int .u64 64) fun v67 =>
   vBool v67 fun c_12 => if c_12 = true then
    (K (.int .u64 0) w)
   else
   loopF [1, 2, 8] [t1, t2, (.int .u64 0)] [] w (F21L1 K))
  else
  vBin (.int .i64) .eql t0 (.int .i64 15) fun v77 =>
  vBool v77 fun c_14 => if c_14 = true then
   (vBin (.int .u64) .geq t2 (.int .u64 64) fun v79 =>
   vBool v79 fun c_15 => if c_15 = true then
    (K (.int .u64 0) w)
   else
   loopF [1, 2, 9] [t1, t2, (.int .u64 0)] [] w (F21L2 K))
  else
  vBin (.int .i64) .eql t0 (.int .i64 16) fun v89 =>
  vBool v89 fun c_17 => if c_17 = true then
   (vBin (.int .u64) .lss t1 t2 fun v92 =>
   vBool v92 fun c_18 => if c_18 = true then
   (K (.int .u64 1) w)
  else
  K (.int .u64 0) w)
  else
  vBin (.int .i64) .eql t0 (.int .i64 17) fun v94 =>
  vBool v94 fun c_19 => if c_19 = true then
   (vBin (.int .u64) .eql t1 t2 fun v97 =>
   vBool v97 fun c_20 => if c_20 = true then
   (K (.int .u64 1) w)
  else
  K (.int .u64 0) w)
  else
  K (.int .u64 0) w

def tab21 : Tab := { sel := [(27, [1, 2, 8]), (35, [1, 2, 9])], plan := [], join := [] }

theorem F21_eq (t0 : Value) (t1 : Value) (t2 : Value) (w : World) (K : Value → World → Prop) : enterV Tryd.prog tab21 Tryd.f21 [t0, t1, t2] w K = F21 t0 t1 t2 w K := by kernel_rfl

theorem F21_ok {t0 : Value} {t1 : Value} {t2 : Value} {w : World} {K : Value → World → Prop} (h : F21 t0 t1 t2 w K) : Ret Tryd.prog 21 #[t0, t1, t2] w K :=
  enter_sound (T := tab21) (args := [t0, t1, t2]) Tryd.func21 Tryd.call21 mixed (by kernel_rfl) (by rw [F21_eq]; exact h)

def F22R1a (r : Option Nat) (ρ : Env) (w : World) (Q : QV) : Prop :=
  vAlloc Tryd.prog 68 w fun v6 w_3 =>
  vSt (some 2) v6 (ρ 32) w_3 fun w_4 =>
  Q .normal (put (put ρ (some 5) (ρ 31)) (some 6) v6) [] w_4

def F22R1b (r : Option Nat) (ρ : Env) (w : World) (Q1 : Exit → World → Prop) : Prop :=
  vIA (.arr 2 1) (ρ 6) (.int .i64 0) fun v33 =>
  vLd .one v33 w fun v34 =>
  vBin (.int .i64) .gtr v34 (.int .i64 0) fun v35 =>
  vBool v35 fun c_4 => if c_4 = true then
   (drawF w fun S =>
   vLdS S .one (ρ 2) fun v36 =>
   vIA (.arr 2 1) (ρ 6) (.int .i64 0) fun v40 =>
   vLdS S .one v40 fun v41 =>
   vIA (.arr 2 1) (ρ 6) (.int .i64 1) fun v42 =>
   vLdS S .one v42 fun v43 =>
   (CallK Tryd.prog 26 #[v36, (ρ 5)] w.drew fun v38 w_3 =>
   S w_3 ∧ (vNilP Tryd.prog v38 fun v39 =>
   vSlice (.arr 64 1) v39 (some v41) (some v43) fun v44 =>
   (vClear Tryd.prog 42 v44 w_3 fun z w_4 =>
   S w_4 ∧ (Q1 .normal w_4)) ∧
   (True))) ∧
   (True))
  else
  Q1 .normal w

def F22L1 (K : Value → World → Prop) (ρ : Env) (ds : List Nat) (w : World) (ag1 : List Value → List Nat → World → Prop) : Prop :=
  drawF w fun S =>
  vLdS S .one (ρ 2) fun v49 =>
  vNilP Tryd.prog v49 fun v50 =>
  vFA (some 1) v50 fun v51 =>
  vLdS S .one v51 fun v52 =>
  vLen (.slice 1) v52 fun v53 =>
  vLdS S .one (ρ 2) fun v54 =>
  (CallK Tryd.prog 38 #[v54] w.drew fun v55 w_3 =>
  S w_3 ∧ (vBin (.int .i64) .lss v53 v55 fun v56 =>
  vBool v56 fun c_3 => if c_3 = true then
   (drawF2 w_3 fun S_2 T =>
  vLdS S_2 .one (ρ 2) fun v57 =>
  vLdS (fun w => S_2 w ∨ T w) .one (ρ 2) fun v58 =>
  vLdS S_2 .one (ρ 2) fun v59 =>
  vNilP Tryd.prog v59 fun v60 =>
  vFA (some 1) v60 fun v61 =>
  vLdS S_2 .one v61 fun v62 =>
  vLdS (fun w => S_2 w ∨ T w) .one (ρ 2) fun v66 =>
  vNilP Tryd.prog v66 fun v67 =>
  vFA (some 2) v67 fun v68 =>
  vLdS S_2 .one v68 fun v69 =>
  (CallK Tryd.prog 39 #[] w_3.drew fun v63 w_4 =>
  S_2 w_4 ∧ ((vBuildSlice Tryd.prog 58 1 [(0, v63)] w_4 fun v64 w_5 =>
  S_2 w_5 ∧ ((vAppend Tryd.prog 58 58 v62 v64 w_5 fun v65 w_6 =>
  S_2 w_6 ∧ ((vBuildSlice Tryd.prog 59 1 [(0, (.bool true))] w_6 fun v70 w_7 =>
  S_2 w_7 ∧ ((vAppend Tryd.prog 59 59 v69 v70 w_7 fun v71 w_8 =>
  S_2 w_8 ∧ (vNilP Tryd.prog v57 fun v72 =>
  vFA (some 1) v72 fun v73 =>
  (vSt (some 1) v73 v65 w_8 fun w_9 =>
  T w_9 ∧ (vNilP Tryd.prog v58 fun v74 =>
  vFA (some 2) v74 fun v75 =>
  (vSt (some 1) v75 v71 w_9 fun w_10 =>
  (ag1 [(ρ 2)] ds w_10)) ∧
  (True))) ∧
  (True))) ∧
  (True))) ∧
  (True))) ∧
  ((vBuildSlice Tryd.prog 59 1 [(0, (.bool true))] w_5 fun v70_2 w_11 =>
  S_2 w_11 ∧ ((vAppend Tryd.prog 58 58 v62 v64 w_11 fun v65_2 w_12 =>
  S_2 w_12 ∧ ((vAppend Tryd.prog 59 59 v69 v70_2 w_12 fun v71_2 w_13 =>
  S_2 w_13 ∧ (vNilP Tryd.prog v57 fun v72_2 =>
  vFA (some 1) v72_2 fun v73_2 =>
  (vSt (some 1) v73_2 v65_2 w_13 fun w_14 =>
  T w_14 ∧ (vNilP Tryd.prog v58 fun v74_2 =>
  vFA (some 2) v74_2 fun v75_2 =>
  (vSt (some 1) v75_2 v71_2 w_14 fun w_15 =>
  (ag1 [(ρ 2)] ds w_15)) ∧
  (True))) ∧
  (True))) ∧
  (True))) ∧
  (True))) ∧
  (True)))) ∧
  ((vBuildSlice Tryd.prog 59 1 [(0, (.bool true))] w_4 fun v70_3 w_16 =>
  S_2 w_16 ∧ ((vBuildSlice Tryd.prog 58 1 [(0, v63)] w_16 fun v64_2 w_17 =>
  S_2 w_17 ∧ ((vAppend Tryd.prog 58 58 v62 v64_2 w_17 fun v65_3 w_18 =>
  S_2 w_18 ∧ ((vAppend Tryd.prog 59 59 v69 v70_3 w_18 fun v71_3 w_19 =>
  S_2 w_19 ∧ (vNilP Tryd.prog v57 fun v72_3 =>
  vFA (some 1) v72_3 fun v73_3 =>
  (vSt (some 1) v73_3 v65_3 w_19 fun w_20 =>
  T w_20 ∧ (vNilP Tryd.prog v58 fun v74_3 =>
  vFA (some 2) v74_3 fun v75_3 =>
  (vSt (some 1) v75_3 v71_3 w_20 fun w_21 =>
  (ag1 [(ρ 2)] ds w_21)) ∧
  (True))) ∧
  (True))) ∧
  (True))) ∧
  (True))) ∧
  (True))) ∧
  (True)))) ∧
  ((vBuildSlice Tryd.prog 59 1 [(0, (.bool true))] w_3.drew fun v70_4 w_22 =>
  S_2 w_22 ∧ ((CallK Tryd.prog 39 #[] w_22 fun v63_2 w_23 =>
  S_2 w_23 ∧ ((vBuildSlice Tryd.prog 58 1 [(0, v63_2)] w_23 fun v64_3 w_24 =>
  S_2 w_24 ∧ ((vAppend Tryd.prog 58 58 v62 v64_3 w_24 fun v65_4 w_25 =>
  S_2 w_25 ∧ ((vAppend Tryd.prog 59 59 v69 v70_4 w_25 fun v71_4 w_26 =>
  S_2 w_26 ∧ (vNilP Tryd.prog v57 fun v72_4 =>
  vFA (some 1) v72_4 fun v73_4 =>
  (vSt (some 1) v73_4 v65_4 w_26 fun w_27 =>
  T w_27 ∧ (vNilP Tryd.prog v58 fun v74_4 =>
  vFA (some 2) v74_4 fun v75_4 =>
  (vSt (some 1) v75_4 v71_4 w_27 fun w_28 =>
  (ag1 [(ρ 2)] ds w_28)) ∧
  (True))) ∧
  (True))) ∧
  (True))) ∧
  (True))) ∧
  (True))) ∧
  (True))) ∧
  (True)))
  else
  drawF2 w_3 fun S_3 T_2 =>
  vLdS S_3 .one (ρ 2) fun v76 =>
  vLdS (fun w => S_3 w ∨ T_2 w) .one (ρ 2) fun v77 =>
  vLdS S_3 .one (ρ 2) fun v78 =>
  vNilP Tryd.prog v78 fun v79 =>
  vFA (some 1) v79 fun v80 =>
  vLdS S_3 .one v80 fun v81 =>
  vLdS S_3 .one (ρ 2) fun v82 =>
  vLdS (fun w => S_3 w ∨ T_2 w) .one (ρ 2) fun v85 =>
  vNilP Tryd.prog v85 fun v86 =>
  vFA (some 2) v86 fun v87 =>
  vLdS S_3 .one v87 fun v88 =>
  vLdS (fun w => S_3 w ∨ T_2 w) .one (ρ 2) fun v89 =>
  (CallK Tryd.prog 38 #[v82] w_3.drew fun v83 w_29 =>
  S_3 w_29 ∧ (vSlice (.slice 1) v81 none (some v83) fun v84 =>
  (CallK Tryd.prog 38 #[v89] w_29 fun v90 w_30 =>
  S_3 w_30 ∧ (vSlice (.slice 1) v88 none (some v90) fun v91 =>
  vNilP Tryd.prog v76 fun v92 =>
  vFA (some 1) v92 fun v93 =>
  (vSt (some 1) v93 v84 w_30 fun w_31 =>
  T_2 w_31 ∧ (vNilP Tryd.prog v77 fun v94 =>
  vFA (some 2) v94 fun v95 =>
  (vSt (some 1) v95 v91 w_31 fun w_32 =>
  (leaveV ds w_32 fun W => K (.int .i64 0) W)) ∧
  (True))) ∧
  (True))) ∧
  (True))) ∧
  (True))) ∧
  (True)

def F22J2 (K : Value → World → Prop) (ρ : Env) (ds : List Nat) (w : World) : Prop :=
  vLd .one (ρ 2) w fun v45 =>
  vNilP Tryd.prog v45 fun v47 =>
  vFA (some 0) v47 fun v48 =>
  vSt (some 1) v48 (ρ 1) w fun w_2 =>
  loopF [2] [(ρ 2)] ds w_2 (F22L1 K)

def F22J1 (K : Value → World → Prop) (ρ : Env) (ds : List Nat) (w : World) : Prop :=
  vBool (ρ 10) fun c_2 => if c_2 = true then
   (leaveV ds w fun W => K (.int .i64 1) W)
  else
  joinF [1, 2] (fun J2 =>
  vLd .one (ρ 2) w fun v18 =>
  vNilP Tryd.prog v18 fun v19 =>
  vFA (some 0) v19 fun v20 =>
  vLd .one v20 w fun v21 =>
  vBin (.int .i64) .lss (ρ 1) v21 fun v22 =>
  vBool v22 fun c_3 => if c_3 = true then
   (vLd .one (ρ 2) w fun v24 =>
   vNilP Tryd.prog v24 fun v25 =>
   vFA (some 0) v25 fun v26 =>
   vLd .one v26 w fun v27 =>
   vBin (.int .i64) .sub v27 (ρ 1) fun v29 =>
   CallK Tryd.prog 25 #[(ρ 1), v29] w fun v30 w_2 =>
   rangeF Tryd.prog none [2] [(ρ 2)] [31, 32] F22R1a F22R1b v30 ds w_2
   (fun ds w_5 => J2 [(ρ 1), (ρ 2)] ds w_5)
   (fun _ _ => False)
   [])
  else
  J2 [(ρ 1), (ρ 2)] ds w)
  (F22J2 K)

/-- (*gatehouse/pages.Bytes).Resize -/
def F22 (t0 : Value) (t1 : Value) (w : World) (K : Value → World → Prop) : Prop :=
  vBox 27 t0 w fun v2 w =>
  vLd .one v2 w fun v8 =>
  vPtr .eql v8 (.pointer none) w fun v9 =>
  vBool v9 fun c => if c = true then
   (K (.int .i64 4) w)
  else
  joinF [1, 2, 5, 6, 10] (fun J1 =>
  vBin (.int .i64) .lss t1 (.int .i64 0) fun v12 =>
  vBool v12 fun g => if g = true then
  (J1 [t1, v2, undef, undef, (.bool true)] [] w)
  else
  (vBin (.int .i64) .gtr t1 (.int .i64 4096) fun v15 =>
  J1 [t1, v2, undef, undef, v15] [] w))
  (F22J1 K)

def tab22 : Tab := { sel := [(12, [2]), (7, [2])], plan := [(10, (.take 0 (.take 1 (.take 4 (.take 5 (.take 6 (.take 7 (.alt 2 (.take 3 (.take 8 (.alt 9 .done .stop))) .stop)))))))), (12, (.take 0 (.take 1 (.take 2 (.take 3 (.take 4 (.take 5 (.alt 6 (.take 7 .done) .stop)))))))), (13, (.take 0 (.take 1 (.take 2 (.take 3 (.take 4 (.take 5 (.take 9 (.take 10 (.take 11 (.take 12 (.alt 6 (.alt 7 (.alt 8 (.alt 13 (.alt 14 (.take 15 (.take 16 (.alt 17 (.take 18 (.take 19 (.alt 20 .done .stop))) .stop))) .stop) .stop) (.alt 13 (.alt 8 (.alt 14 (.take 15 (.take 16 (.alt 17 (.take 18 (.take 19 (.alt 20 .done .stop))) .stop))) .stop) .stop) .stop)) (.alt 13 (.alt 7 (.alt 8 (.alt 14 (.take 15 (.take 16 (.alt 17 (.take 18 (.take 19 (.alt 20 .done .stop))) .stop))) .stop) .stop) .stop) .stop)) (.alt 13 (.alt 6 (.alt 7 (.alt 8 (.alt 14 (.take 15 (.take 16 (.alt 17 (.take 18 (.take 19 (.alt 20 .done .stop))) .stop))) .stop) .stop) .stop) .stop) .stop))))))))))))), (14, (.take 0 (.take 1 (.take 2 (.take 3 (.take 4 (.take 5 (.take 6 (.take 9 (.take 10 (.take 11 (.take 12 (.take 13 (.alt 7 (.take 8 (.alt 14 (.take 15 (.take 16 (.take 17 (.alt 18 (.take 19 (.take 20 (.alt 21 .done .stop))) .stop)))) .stop)) .stop))))))))))))))], join := [(11, [1, 2]), (4, [1, 2, 5, 6, 10])] }

theorem F22_eq (t0 : Value) (t1 : Value) (w : World) (K : Value → World → Prop) : enterV Tryd.prog tab22 Tryd.f22 [t0, t1] w K = F22 t0 t1 w K := by kernel_rfl

theorem F22_ok {t0 : Value} {t1 : Value} {w : World} {K : Value → World → Prop} (h : F22 t0 t1 w K) : Ret Tryd.prog 22 #[t0, t1] w K :=
  enter_sound (T := tab22) (args := [t0, t1]) Tryd.func22 Tryd.call22 mixed (by kernel_rfl) (by rw [F22_eq]; exact h)

def F23L2 (K : Value → World → Prop) (ρ : Env) (ds : List Nat) (w : World) (ag2 : List Value → List Nat → World → Prop) : Prop :=
  vBin (.int .i64) .lss (ρ 65) (ρ 64) fun v66 =>
  vBool v66 fun c_5 => if c_5 = true then
   (vIA (.slice 1) (ρ 63) (ρ 65) fun v67 =>
  vLd .one v67 w fun v68 =>
  CallK Tryd.prog 41 #[(ρ 8), (ρ 1)] w fun v70 w_4 =>
  CallK Tryd.prog 41 #[(ρ 8), v68] w_4 fun v72 w_5 =>
  vBin (.int .i64) .add (ρ 65) (.int .i64 1) fun v73 =>
  ag2 [(ρ 1), (ρ 8), (ρ 63), (ρ 64), v73] ds w_5)
  else
  CallK Tryd.prog 31 #[(ρ 8)] w fun v74 w_6 =>
  leaveV ds w_6 fun W => K v74 W

def F23L1 (K : Value → World → Prop) (ρ : Env) (ds : List Nat) (w : World) (ag1 : List Value → List Nat → World → Prop) : Prop :=
  vBin (.int .i64) .lss (ρ 41) (ρ 40) fun v42 =>
  vBool v42 fun c_3 => if c_3 = true then
   (vIA (.slice 1) (ρ 39) (ρ 41) fun v43 =>
  vLd .one v43 w fun v44 =>
  vLen .string v44 fun v46 =>
  vBin (.int .i64) .sub (.int .i64 9223372036854775807) (ρ 5) fun v48 =>
  vBin (.int .i64) .gtr v46 v48 fun v49 =>
  vBool v49 fun c_4 => if c_4 = true then
   (vIface true 9 (.string ⟨#[115, 116, 114, 105, 110, 103, 115, 58, 32, 74, 111, 105, 110, 32, 111, 117, 116, 112, 117, 116, 32, 108, 101, 110, 103, 116, 104, 32, 111, 118, 101, 114, 102, 108, 111, 119]⟩) fun v50 =>
   False)
  else
  vLen .string v44 fun v53 =>
  vBin (.int .i64) .add (ρ 5) v53 fun v54 =>
  vBin (.int .i64) .add (ρ 41) (.int .i64 1) fun v55 =>
  ag1 [(ρ 0), (ρ 1), v54, (ρ 39), (ρ 40), v55] ds w)
  else
  vAlloc Tryd.prog 81 w fun v8 w =>
  CallK Tryd.prog 40 #[v8, (ρ 5)] w fun v57 w_2 =>
  vIA (.slice 1) (ρ 0) (.int .i64 0) fun v59 =>
  vLd .one v59 w_2 fun v60 =>
  CallK Tryd.prog 41 #[v8, v60] w_2 fun v61 w_3 =>
  vSlice (.slice 1) (ρ 0) (some (.int .i64 1)) none fun v63 =>
  vLen (.slice 1) v63 fun v64 =>
  loopF [1, 8, 63, 64, 65] [(ρ 1), v8, v63, v64, (.int .i64 0)] ds w_3 (F23L2 K)

def F23J1 (K : Value → World → Prop) (ρ : Env) (ds : List Nat) (w : World) : Prop :=
  vLen (.slice 1) (ρ 0) fun v40 =>
  loopF [0, 1, 5, 39, 40, 41] [(ρ 0), (ρ 1), (ρ 5), (ρ 0), v40, (.int .i64 0)] ds w (F23L1 K)

/-- strings.Join -/
def F23 (t0 : Value) (t1 : Value) (w : World) (K : Value → World → Prop) : Prop :=
  vLen (.slice 1) t0 fun v12 =>
  vBin (.int .i64) .eql v12 (.int .i64 0) fun v14 =>
  vBool v14 fun c => if c = true then
   (K (.string ⟨#[]⟩) w)
  else
  vBin (.int .i64) .eql v12 (.int .i64 1) fun v16 =>
  vBool v16 fun c_2 => if c_2 = true then
   (vIA (.slice 1) t0 (.int .i64 0) fun v18 =>
   vLd .one v18 w fun v19 =>
   K v19 w)
  else
  joinF [0, 1, 5] (fun J1 =>
  vLen .string t1 fun v21 =>
  vBin (.int .i64) .gtr v21 (.int .i64 0) fun v22 =>
  vBool v22 fun c_3 => if c_3 = true then
   (vLen .string t1 fun v24 =>
   vLen (.slice 1) t0 fun v26 =>
   vBin (.int .i64) .sub v26 (.int .i64 1) fun v27 =>
   vBin (.int .i64) .quo (.int .i64 9223372036854775807) v27 fun v28 =>
   vBin (.int .i64) .geq v24 v28 fun v29 =>
   vBool v29 fun c_4 => if c_4 = true then
    (vIface true 9 (.string ⟨#[115, 116, 114, 105, 110, 103, 115, 58, 32, 74, 111, 105, 110, 32, 111, 117, 116, 112, 117, 116, 32, 108, 101, 110, 103, 116, 104, 32, 111, 118, 101, 114, 102, 108, 111, 119]⟩) fun v30 =>
    False)
   else
   vLen .string t1 fun v33 =>
   vLen (.slice 1) t0 fun v35 =>
   vBin (.int .i64) .sub v35 (.int .i64 1) fun v36 =>
   vBin (.int .i64) .mul v33 v36 fun v37 =>
   vBin (.int .i64) .add (.int .i64 0) v37 fun v38 =>
   J1 [t0, t1, v38] [] w)
  else
  J1 [t0, t1, (.int .i64 0)] [] w)
  (F23J1 K)

def tab23 : Tab := { sel := [(22, [1, 8, 63, 64, 65]), (12, [0, 1, 5, 39, 40, 41])], plan := [], join := [(11, [0, 1, 5])] }

theorem F23_eq (t0 : Value) (t1 : Value) (w : World) (K : Value → World → Prop) : enterV Tryd.prog tab23 Tryd.f23 [t0, t1] w K = F23 t0 t1 w K := by kernel_rfl

theorem F23_ok {t0 : Value} {t1 : Value} {w : World} {K : Value → World → Prop} (h : F23 t0 t1 w K) : Ret Tryd.prog 23 #[t0, t1] w K :=
  enter_sound (T := tab23) (args := [t0, t1]) Tryd.func23 Tryd.call23 mixed (by kernel_rfl) (by rw [F23_eq]; exact h)

/-- (*gatehouse/pages.Bytes).fits -/
def F24 (t0 : Value) (t1 : Value) (t2 : Value) (w : World) (K : Value → World → Prop) : Prop :=
  vPtr .eql t0 (.pointer none) w fun v9 =>
  vBool v9 fun c => if c = true then
   (K (.int .i64 4) w)
  else
  vBin (.int .i64) .lss t1 (.int .i64 0) fun v12 =>
  vBool v12 fun g => if g = true then
  (K (.int .i64 9) w)
  else
  (vBin (.int .i64) .lss t2 (.int .i64 0) fun v15 =>
  vBool v15 fun g_2 => if g_2 = true then
  (K (.int .i64 9) w)
  else
  (vNilP Tryd.prog t0 fun v20 =>
  vFA (some 0) v20 fun v21 =>
  vLd .one v21 w fun v22 =>
  vBin (.int .i64) .gtr t1 v22 fun v23 =>
  vBool v23 fun g_3 => if g_3 = true then
  (K (.int .i64 9) w)
  else
  (vNilP Tryd.prog t0 fun v28 =>
  vFA (some 0) v28 fun v29 =>
  vLd .one v29 w fun v30 =>
  vBin (.int .i64) .sub v30 t1 fun v32 =>
  vBin (.int .i64) .gtr t2 v32 fun v33 =>
  vBool v33 fun c_2 => if c_2 = true then
   (K (.int .i64 9) w)
  else
  K (.int .i64 0) w)))

def tab24 : Tab := { sel := [], plan := [], join := [] }

theorem F24_eq (t0 : Value) (t1 : Value) (t2 : Value) (w : World) (K : Value → World → Prop) : enterV Tryd.prog tab24 Tryd.f24 [t0, t1, t2] w K = F24 t0 t1 t2 w K := by kernel_rfl

theorem F24_ok {t0 : Value} {t1 : Value} {t2 : Value} {w : World} {K : Value → World → Prop} (h : F24 t0 t1 t2 w K) : Ret Tryd.prog 24 #[t0, t1, t2] w K :=
  enter_sound (T := tab24) (args := [t0, t1, t2]) Tryd.func24 Tryd.call24 mixed (by kernel_rfl) (by rw [F24_eq]; exact h)

/-- gatehouse/pages.pieces -/
def F25 (t0 : Value) (t1 : Value) (w : World) (K : Value → World → Prop) : Prop :=
  vBox 3 t0 w fun v2 w =>
  vBox 3 t1 w fun v3 w_2 =>
  K (.func (.func 42) #[] #[v3, v2]) w_2

def tab25 : Tab := { sel := [], plan := [], join := [] }

theorem F25_eq (t0 : Value) (t1 : Value) (w : World) (K : Value → World → Prop) : enterV Tryd.prog tab25 Tryd.f25 [t0, t1] w K = F25 t0 t1 w K := by kernel_rfl

theorem F25_ok {t0 : Value} {t1 : Value} {w : World} {K : Value → World → Prop} (h : F25 t0 t1 w K) : Ret Tryd.prog 25 #[t0, t1] w K :=
  enter_sound (T := tab25) (args := [t0, t1]) Tryd.func25 Tryd.call25 mixed (by kernel_rfl) (by rw [F25_eq]; exact h)

/-- (*gatehouse/pages.Bytes).own -/
def F26 (t0 : Value) (t1 : Value) (w : World) (K : Value → World → Prop) : Prop :=
  vNilP Tryd.prog t0 fun v7 =>
  vFA (some 2) v7 fun v8 =>
  vLd .one v8 w fun v9 =>
  vIA (.slice 1) v9 t1 fun v11 =>
  vLd .one v11 w fun v12 =>
  vUn .not v12 fun v13 =>
  vBool v13 fun c => if c = true then
   (vNilP Tryd.prog t0 fun v15 =>
   vFA (some 1) v15 fun v16 =>
   vLd .one v16 w fun v17 =>
   vIA (.slice 1) v17 t1 fun v19 =>
   vLd .one v19 w fun v20 =>
   vNilP Tryd.prog v20 fun v21 =>
   vLd (.agg 64) v21 w fun v22 =>
   vAlloc Tryd.prog 98 w fun v5 w =>
   vSt (some 64) v5 v22 w fun w_2 =>
   drawF w_2 fun S =>
   vNilP Tryd.prog t0 fun v24 =>
   vFA (some 1) v24 fun v25 =>
   vLdS S .one v25 fun v26 =>
   vNilP Tryd.prog t0 fun v29 =>
   vFA (some 2) v29 fun v30 =>
   vLdS S .one v30 fun v31 =>
   vIA (.slice 1) v26 t1 fun v33 =>
   (vSt (some 1) v33 v5 w_2.drew fun w_3 =>
   (vIA (.slice 1) v31 t1 fun v34 =>
   (vSt (some 1) v34 (.bool true) w_3 fun w_4 =>
   (vNilP Tryd.prog t0 fun v36 =>
  vFA (some 1) v36 fun v37 =>
  vLd .one v37 w_4 fun v38 =>
  vIA (.slice 1) v38 t1 fun v40 =>
  vLd .one v40 w_4 fun v41 =>
  K v41 w_4)) ∧
   (True))) ∧
   (True))
  else
  vNilP Tryd.prog t0 fun v36_2 =>
  vFA (some 1) v36_2 fun v37_2 =>
  vLd .one v37_2 w fun v38_2 =>
  vIA (.slice 1) v38_2 t1 fun v40_2 =>
  vLd .one v40_2 w fun v41_2 =>
  K v41_2 w

def tab26 : Tab := { sel := [], plan := [(3, (.take 0 (.take 1 (.take 2 (.take 3 (.take 4 (.take 5 (.take 6 (.take 7 (.take 8 (.take 9 (.take 10 (.alt 11 (.take 12 (.alt 13 .done .stop)) .stop)))))))))))))], join := [] }

theorem F26_eq (t0 : Value) (t1 : Value) (w : World) (K : Value → World → Prop) : enterV Tryd.prog tab26 Tryd.f26 [t0, t1] w K = F26 t0 t1 w K := by kernel_rfl

theorem F26_ok {t0 : Value} {t1 : Value} {w : World} {K : Value → World → Prop} (h : F26 t0 t1 w K) : Ret Tryd.prog 26 #[t0, t1] w K :=
  enter_sound (T := tab26) (args := [t0, t1]) Tryd.func26 Tryd.call26 mixed (by kernel_rfl) (by rw [F26_eq]; exact h)

def F27J1 (K : Value → World → Prop) (ρ : Env) (ds : List Nat) (w : World) : Prop :=
  vLd (.agg 5) (ρ 4) w fun v65 =>
  CallK Tryd.prog 44 #[v65] w fun v66 w_5 =>
  vExt v66 0 fun v67 =>
  vExt v66 1 fun v68 =>
  vBin (.int .i64) .neq v68 (.int .i64 0) fun v70 =>
  vBool v70 fun g => if g = true then
  (vBuild Tryd.prog 48 [] fun v76 =>
  vSt (some 5) (ρ 2) v76 w_5 fun w_6 =>
  leaveV ds w_6 fun W => vLd (.agg 5) (ρ 2) W fun r_2 => K (.tuple #[r_2, (.int .i64 12)]) W)
  else
  (vBin .string .neq v67 (ρ 0) fun v74 =>
  vBool v74 fun c_2 => if c_2 = true then
   (vBuild Tryd.prog 48 [] fun v76_2 =>
   vSt (some 5) (ρ 2) v76_2 w_5 fun w_7 =>
   leaveV ds w_7 fun W => vLd (.agg 5) (ρ 2) W fun r_3 => K (.tuple #[r_3, (.int .i64 12)]) W)
  else
  vLd (.agg 5) (ρ 4) w_5 fun v77 =>
  vSt (some 5) (ρ 2) v77 w_5 fun w_8 =>
  leaveV ds w_8 fun W => vLd (.agg 5) (ρ 2) W fun r_4 => K (.tuple #[r_4, (.int .i64 0)]) W)

/-- gatehouse/isa.Decode -/
def F27 (t0 : Value) (w : World) (K : Value → World → Prop) : Prop :=
  vAlloc Tryd.prog 48 w fun v2 w =>
  vLen .string t0 fun v8 =>
  vBin (.int .i64) .neq v8 (.int .i64 4) fun v9 =>
  vBool v9 fun c => if c = true then
   (vBuild Tryd.prog 48 [] fun v10 =>
   vSt (some 5) v2 v10 w fun w_2 =>
   vLd (.agg 5) v2 w_2 fun r => K (.tuple #[r, (.int .i64 12)]) w_2)
  else
  drawF w fun S =>
  vIx .string .bad t0 (.int .i64 0) fun v12 =>
  vConv (.int .i64) v12 fun v13 =>
  vIx .string .bad t0 (.int .i64 1) fun v15 =>
  vConv (.int .i64) v15 fun v16 =>
  vBuild Tryd.prog 48 [(0, v13), (1, v16)] fun v17 =>
  (vAlloc Tryd.prog 48 w.drew fun v4 w_3 =>
  S w_3 ∧ ((vSt (some 5) v4 v17 w_3 fun w_4 =>
  (joinF [0, 2, 4] (fun J1 =>
  vFA (some 0) v4 fun v18 =>
  vLd .one v18 w_4 fun v19 =>
  CallK Tryd.prog 43 #[v19] w_4 fun v20 w_5 =>
  vField (some (.one, 2)) v20 fun v21 =>
  vBin (.int .i64) .eql v21 (.int .i64 1) fun v31 =>
  vBool v31 fun c_2 => if c_2 = true then
   (drawF w_5 fun S_2 =>
   vIx .string .bad t0 (.int .i64 2) fun v33 =>
   vConv (.int .i64) v33 fun v34 =>
   vIx .string .bad t0 (.int .i64 3) fun v36 =>
   vConv (.int .i64) v36 fun v37 =>
   vBin (.int .i64) .shl v37 (.int .u64 8) fun v38 =>
   vBin (.int .i64) .or v34 v38 fun v39 =>
   vFA (some 4) v4 fun v40 =>
   (vSt (some 1) v40 v39 w_5.drew fun w_6 =>
   (J1 [t0, v2, v4] [] w_6)) ∧
   (True))
  else
  vBin (.int .i64) .eql v21 (.int .i64 3) fun v42 =>
  vBool v42 fun c_3 => if c_3 = true then
   (drawF w_5 fun S_3 =>
   vIx .string .bad t0 (.int .i64 2) fun v44 =>
   vConv (.int .u16) v44 fun v45 =>
   vIx .string .bad t0 (.int .i64 3) fun v47 =>
   vConv (.int .u16) v47 fun v48 =>
   vBin (.int .u16) .shl v48 (.int .u64 8) fun v49 =>
   vBin (.int .u16) .or v45 v49 fun v50 =>
   vConv (.int .i16) v50 fun v51 =>
   vConv (.int .i64) v51 fun v52 =>
   vFA (some 4) v4 fun v53 =>
   (vSt (some 1) v53 v52 w_5.drew fun w_7 =>
   (J1 [t0, v2, v4] [] w_7)) ∧
   (True))
  else
  vBin (.int .i64) .eql v21 (.int .i64 2) fun v55 =>
  vBool v55 fun c_4 => if c_4 = true then
   (drawF w_5 fun S_4 =>
   vIx .string .bad t0 (.int .i64 2) fun v57 =>
   vConv (.int .i64) v57 fun v58 =>
   vIx .string .bad t0 (.int .i64 3) fun v60 =>
   vConv (.int .i64) v60 fun v61 =>
   vFA (some 2) v4 fun v62 =>
   (vSt (some 1) v62 v58 w_5.drew fun w_8 =>
   (vFA (some 4) v4 fun v63 =>
   (vSt (some 1) v63 v61 w_8 fun w_9 =>
   (J1 [t0, v2, v4] [] w_9)) ∧
   (True))) ∧
   (True))
  else
  drawF w_5 fun S_5 =>
  vIx .string .bad t0 (.int .i64 2) fun v23 =>
  vConv (.int .i64) v23 fun v24 =>
  vIx .string .bad t0 (.int .i64 3) fun v26 =>
  vConv (.int .i64) v26 fun v27 =>
  vFA (some 2) v4 fun v28 =>
  (vSt (some 1) v28 v24 w_5.drew fun w_10 =>
  (vFA (some 3) v4 fun v29 =>
  (vSt (some 1) v29 v27 w_10 fun w_11 =>
  (J1 [t0, v2, v4] [] w_11)) ∧
  (True))) ∧
  (True))
  (F27J1 K))) ∧
  (True))) ∧
  (True)

def tab27 : Tab := { sel := [], plan := [(3, (.take 0 (.take 1 (.take 2 (.take 3 (.take 4 (.take 5 (.take 6 (.alt 7 (.alt 8 .done .stop) .stop))))))))), (7, (.take 0 (.take 1 (.take 2 (.take 3 (.take 4 (.take 5 (.take 6 (.take 7 (.take 8 (.alt 9 .done .stop))))))))))), (9, (.take 0 (.take 1 (.take 2 (.take 3 (.take 4 (.take 5 (.take 6 (.take 7 (.take 8 (.take 9 (.take 10 (.alt 11 .done .stop))))))))))))), (11, (.take 0 (.take 1 (.take 2 (.take 3 (.take 4 (.take 5 (.take 6 (.alt 7 (.take 8 (.alt 9 .done .stop)) .stop))))))))), (5, (.take 0 (.take 1 (.take 2 (.take 3 (.take 4 (.take 5 (.take 6 (.alt 7 (.take 8 (.alt 9 .done .stop)) .stop)))))))))], join := [(12, [0, 2, 4])] }

theorem F27_eq (t0 : Value) (w : World) (K : Value → World → Prop) : enterV Tryd.prog tab27 Tryd.f27 [t0] w K = F27 t0 w K := by kernel_rfl

theorem F27_ok {t0 : Value} {w : World} {K : Value → World → Prop} (h : F27 t0 w K) : Ret Tryd.prog 27 #[t0] w K :=
  enter_sound (T := tab27) (args := [t0]) Tryd.func27 Tryd.call27 mixed (by kernel_rfl) (by rw [F27_eq]; exact h)

def F28J2 (K : Value → World → Prop) (ρ : Env) (ds : List Nat) (w : World) : Prop :=
  vBool (ρ 37) fun c => if c = true then
   (drawF w fun S_2 =>
   vFA (some 1) (ρ 5) fun v41 =>
   vLdS S_2 .one v41 fun v42 =>
   vNilP Tryd.prog (ρ 0) fun v43 =>
   vFA (some 0) v43 fun v44 =>
   vIA (.arr 16 1) v44 v42 fun v45 =>
   vLdS S_2 .one v45 fun v46 =>
   vNilP Tryd.prog (.func (.method "Store") #[(ρ 1)] #[]) fun v50 =>
   (CallK Tryd.prog 45 #[v46, (ρ 7)] w.drew fun v48 w_2 =>
   S_2 w_2 ∧ ((vInvoke Tryd.prog (ρ 1) "Store" [(ρ 8), v48] w_2 fun v52 w_3 =>
   S_2 w_3 ∧ (vBin (.int .i64) .eql v52 (.int .i64 0) fun v53 =>
   leaveV ds w_3 fun W => K v53 W)) ∧
   (True))) ∧
   (True))
  else
  vInvoke Tryd.prog (ρ 1) "Load" [(ρ 8), (ρ 7), (.int .i64 0)] w fun v58 w_4 =>
  vExt v58 0 fun v59 =>
  vExt v58 1 fun v60 =>
  vBin (.int .i64) .neq v60 (.int .i64 0) fun v62 =>
  vBool v62 fun c_2 => if c_2 = true then
   (leaveV ds w_4 fun W => K (.bool false) W)
  else
  drawF w_4 fun S_3 =>
  vFA (some 1) (ρ 5) fun v64 =>
  vLdS S_3 .one v64 fun v65 =>
  vNilP Tryd.prog (ρ 0) fun v68 =>
  vFA (some 0) v68 fun v69 =>
  (CallK Tryd.prog 46 #[v59] w_4.drew fun v67 w_5 =>
  S_3 w_5 ∧ (vIA (.arr 16 1) v69 v65 fun v70 =>
  (vSt (some 1) v70 v67 w_5 fun w_6 =>
  (leaveV ds w_6 fun W => K (.bool true) W)) ∧
  (True))) ∧
  (True)

def F28J1 (K : Value → World → Prop) (ρ : Env) (ds : List Nat) (w : World) : Prop :=
  drawF w fun S =>
  vFA (some 2) (ρ 5) fun v20 =>
  vLdS S .one v20 fun v21 =>
  vNilP Tryd.prog (ρ 0) fun v22 =>
  vFA (some 0) v22 fun v23 =>
  vIA (.arr 16 1) v23 v21 fun v24 =>
  vLdS S .one v24 fun v25 =>
  vFA (some 4) (ρ 5) fun v26 =>
  vLdS S .one v26 fun v27 =>
  vConv (.int .u64) v27 fun v28 =>
  vBin (.int .u64) .add v25 v28 fun v29 =>
  joinF [0, 1, 5, 7, 8, 37] (fun J2 =>
  vFA (some 0) (ρ 5) fun v30 =>
  vLd .one v30 w.drew fun v31 =>
  vBin (.int .i64) .eql v31 (.int .i64 19) fun v32 =>
  vBool v32 fun g => if g = true then
  (J2 [(ρ 0), (ρ 1), (ρ 5), (ρ 7), v29, (.bool true)] ds w.drew)
  else
  (vFA (some 0) (ρ 5) fun v34 =>
  vLd .one v34 w.drew fun v35 =>
  vBin (.int .i64) .eql v35 (.int .i64 21) fun v36 =>
  J2 [(ρ 0), (ρ 1), (ρ 5), (ρ 7), v29, v36] ds w.drew))
  (F28J2 K)

/-- gatehouse/cpu.moves -/
def F28 (t0 : Value) (t1 : Value) (t2 : Value) (w : World) (K : Value → World → Prop) : Prop :=
  vBox 48 t2 w fun v5 w =>
  joinF [0, 1, 5, 7] (fun J1 =>
  vFA (some 0) v5 fun v11 =>
  vLd .one v11 w fun v12 =>
  vBin (.int .i64) .eql v12 (.int .i64 20) fun v13 =>
  vBool v13 fun g => if g = true then
  (J1 [t0, t1, v5, (.int .i64 8)] [] w)
  else
  (vFA (some 0) v5 fun v15 =>
  vLd .one v15 w fun v16 =>
  vBin (.int .i64) .eql v16 (.int .i64 21) fun v17 =>
  vBool v17 fun c => if c = true then
   (J1 [t0, t1, v5, (.int .i64 8)] [] w)
  else
  J1 [t0, t1, v5, (.int .i64 1)] [] w))
  (F28J1 K)

def tab28 : Tab := { sel := [], plan := [(4, (.take 0 (.take 1 (.take 2 (.take 3 (.take 4 (.take 5 (.take 6 (.take 7 (.take 8 (.take 9 (.take 10 (.take 11 .done))))))))))))), (6, (.take 0 (.take 1 (.take 2 (.take 3 (.take 4 (.take 5 (.take 6 (.take 7 (.take 8 (.take 9 (.take 11 (.take 12 (.take 13 (.alt 10 (.alt 14 (.take 15 (.take 16 .done)) .stop) .stop))))))))))))))), (10, (.take 0 (.take 1 (.take 2 (.take 3 (.take 5 (.take 6 (.alt 4 (.take 7 (.alt 8 .done .stop)) .stop))))))))], join := [(6, [0, 1, 5, 7, 8, 37]), (4, [0, 1, 5, 7])] }

theorem F28_eq (t0 : Value) (t1 : Value) (t2 : Value) (w : World) (K : Value → World → Prop) : enterV Tryd.prog tab28 Tryd.f28 [t0, t1, t2] w K = F28 t0 t1 t2 w K := by kernel_rfl

theorem F28_ok {t0 : Value} {t1 : Value} {t2 : Value} {w : World} {K : Value → World → Prop} (h : F28 t0 t1 t2 w K) : Ret Tryd.prog 28 #[t0, t1, t2] w K :=
  enter_sound (T := tab28) (args := [t0, t1, t2]) Tryd.func28 Tryd.call28 mixed (by kernel_rfl) (by rw [F28_eq]; exact h)

/-- gatehouse/cpu.reckon -/
def F29 (t0 : Value) (t1 : Value) (t2 : Value) (w : World) (K : Value → World → Prop) : Prop :=
  vBin (.int .i64) .eql t0 (.int .i64 6) fun v9 =>
  vBool v9 fun c => if c = true then
   (vBin (.int .u64) .add t1 t2 fun v12 =>
   K v12 w)
  else
  vBin (.int .i64) .eql t0 (.int .i64 7) fun v14 =>
  vBool v14 fun c_2 => if c_2 = true then
   (vBin (.int .u64) .sub t1 t2 fun v17 =>
   K v17 w)
  else
  vBin (.int .i64) .eql t0 (.int .i64 8) fun v19 =>
  vBool v19 fun c_3 => if c_3 = true then
   (vBin (.int .u64) .mul t1 t2 fun v22 =>
   K v22 w)
  else
  vBin (.int .i64) .eql t0 (.int .i64 9) fun v24 =>
  vBool v24 fun c_4 => if c_4 = true then
   (vBin (.int .u64) .eql t2 (.int .u64 0) fun v26 =>
   vBool v26 fun c_5 => if c_5 = true then
    (K (.int .u64 18446744073709551615) w)
   else
   vBin (.int .u64) .quo t1 t2 fun v29 =>
   K v29 w)
  else
  vBin (.int .i64) .eql t0 (.int .i64 10) fun v31 =>
  vBool v31 fun c_6 => if c_6 = true then
   (vBin (.int .u64) .eql t2 (.int .u64 0) fun v33 =>
   vBool v33 fun c_7 => if c_7 = true then
    (K t1 w)
   else
   vBin (.int .u64) .rem t1 t2 fun v37 =>
   K v37 w)
  else
  vBin (.int .i64) .eql t0 (.int .i64 11) fun v39 =>
  vBool v39 fun c_8 => if c_8 = true then
   (vBin (.int .u64) .and t1 t2 fun v42 =>
   K v42 w)
  else
  vBin (.int .i64) .eql t0 (.int .i64 12) fun v44 =>
  vBool v44 fun c_9 => if c_9 = true then
   (vBin (.int .u64) .or t1 t2 fun v47 =>
   K v47 w)
  else
  vBin (.int .i64) .eql t0 (.int .i64 13) fun v49 =>
  vBool v49 fun c_10 => if c_10 = true then
   (vBin (.int .u64) .xor t1 t2 fun v52 =>
   K v52 w)
  else
  vBin (.int .i64) .eql t0 (.int .i64 14) fun v54 =>
  vBool v54 fun c_11 => if c_11 = true then
   (vBin (.int .u64) .shl t1 t2 fun v57 =>
   K v57 w)
  else
  vBin (.int .i64) .eql t0 (.int .i64 15) fun v59 =>
  vBool v59 fun c_12 => if c_12 = true then
   (vBin (.int .u64) .shr t1 t2 fun v62 =>
   K v62 w)
  else
  vBin (.int .i64) .eql t0 (.int .i64 16) fun v64 =>
  vBool v64 fun c_13 => if c_13 = true then
   (vBin (.int .u64) .lss t1 t2 fun v67 =>
   CallK Tryd.prog 47 #[v67] w fun v68 w =>
   K v68 w)
  else
  vBin (.int .u64) .eql t1 t2 fun v71 =>
  CallK Tryd.prog 47 #[v71] w fun v72 w_2 =>
  K v72 w_2

def tab29 : Tab := { sel := [], plan := [], join := [] }

theorem F29_eq (t0 : Value) (t1 : Value) (t2 : Value) (w : World) (K : Value → World → Prop) : enterV Tryd.prog tab29 Tryd.f29 [t0, t1, t2] w K = F29 t0 t1 t2 w K := by kernel_rfl

theorem F29_ok {t0 : Value} {t1 : Value} {t2 : Value} {w : World} {K : Value → World → Prop} (h : F29 t0 t1 t2 w K) : Ret Tryd.prog 29 #[t0, t1, t2] w K :=
  enter_sound (T := tab29) (args := [t0, t1, t2]) Tryd.func29 Tryd.call29 mixed (by kernel_rfl) (by rw [F29_eq]; exact h)

/-- (*strings.Builder).Write -/
def F30 (t0 : Value) (t1 : Value) (w : World) (K : Value → World → Prop) : Prop :=
  CallK Tryd.prog 48 #[t0] w fun v7 w =>
  vNilP Tryd.prog t0 fun v10 =>
  vFA (some 1) v10 fun v11 =>
  vLd .one v11 w fun v12 =>
  vAppend Tryd.prog 42 42 v12 t1 w fun v14 w_2 =>
  vNilP Tryd.prog t0 fun v15 =>
  vFA (some 1) v15 fun v16 =>
  vSt (some 1) v16 v14 w_2 fun w_3 =>
  vLen (.slice 1) t1 fun v18 =>
  K (.tuple #[v18, .nilIface]) w_3

def tab30 : Tab := { sel := [], plan := [], join := [] }

theorem F30_eq (t0 : Value) (t1 : Value) (w : World) (K : Value → World → Prop) : enterV Tryd.prog tab30 Tryd.f30 [t0, t1] w K = F30 t0 t1 w K := by kernel_rfl

theorem F30_ok {t0 : Value} {t1 : Value} {w : World} {K : Value → World → Prop} (h : F30 t0 t1 w K) : Ret Tryd.prog 30 #[t0, t1] w K :=
  enter_sound (T := tab30) (args := [t0, t1]) Tryd.func30 Tryd.call30 mixed (by kernel_rfl) (by rw [F30_eq]; exact h)

/-- (*strings.Builder).String -/
def F31 (t0 : Value) (w : World) (K : Value → World → Prop) : Prop :=
  drawF w fun S =>
  vNilP Tryd.prog t0 fun v4 =>
  vFA (some 1) v4 fun v5 =>
  vLdS S .one v5 fun v6 =>
  vUSD v6 fun v7 =>
  vNilP Tryd.prog t0 fun v9 =>
  vFA (some 1) v9 fun v10 =>
  vLdS S .one v10 fun v11 =>
  vLen (.slice 1) v11 fun v12 =>
  (vUStr Tryd.prog 108 v7 v12 w.drew fun v13 w =>
  S w ∧ (K v13 w)) ∧
  (True)

def tab31 : Tab := { sel := [], plan := [(1, (.take 0 (.take 1 (.take 2 (.take 3 (.take 4 (.take 5 (.take 6 (.take 7 (.take 8 (.take 9 (.alt 10 (.take 11 .done) .stop))))))))))))], join := [] }

theorem F31_eq (t0 : Value) (w : World) (K : Value → World → Prop) : enterV Tryd.prog tab31 Tryd.f31 [t0] w K = F31 t0 w K := by kernel_rfl

theorem F31_ok {t0 : Value} {w : World} {K : Value → World → Prop} (h : F31 t0 w K) : Ret Tryd.prog 31 #[t0] w K :=
  enter_sound (T := tab31) (args := [t0]) Tryd.func31 Tryd.call31 mixed (by kernel_rfl) (by rw [F31_eq]; exact h)

def F32L1 (K : Value → World → Prop) (ρ : Env) (ds : List Nat) (w : World) (ag1 : List Value → List Nat → World → Prop) : Prop :=
  vFA (some 2) (ρ 10) fun v60 =>
  vLd .one v60 w fun v61 =>
  vBin (.int .i64) .lss (ρ 12) v61 fun v62 =>
  vBool v62 fun c_4 => if c_4 = true then
   (drawF w fun S =>
  vFA (some 1) (ρ 10) fun v66 =>
  vLdS S .one v66 fun v67 =>
  vConv (.int .i64) v67 fun v68 =>
  vBin (.int .i64) .add v68 (ρ 12) fun v70 =>
  vFA (some 3) (ρ 10) fun v71 =>
  vLdS S .one v71 fun v72 =>
  vIx .string .bad v72 (ρ 12) fun v74 =>
  vIA (.slice 1) (ρ 1) v70 fun v75 =>
  (vSt (some 1) v75 v74 w.drew fun w_14 =>
  (vBin (.int .i64) .add (ρ 12) (.int .i64 1) fun v64 =>
  ag1 [(ρ 1), (ρ 2), (ρ 4), (ρ 9), (ρ 10), (ρ 11), v64] ds w_14)) ∧
  (True))
  else
  vLd (.agg 17) (ρ 2) w fun v77 =>
  vLd (.agg 5) (ρ 9) w fun v78 =>
  CallK Tryd.prog 52 #[v77, v78, (ρ 11)] w fun v80 w_15 =>
  vExt v80 0 fun v81 =>
  vExt v80 1 fun v82 =>
  vAlloc Tryd.prog 25 w_15 fun v13 w_16 =>
  vSt (some 17) v13 v81 w_16 fun w_17 =>
  vLd (.agg 17) v13 w_17 fun v83 =>
  vSt (some 17) (ρ 4) v83 w_17 fun w_18 =>
  leaveV ds w_18 fun W => vLd (.agg 17) (ρ 4) W fun r_3 => K (.tuple #[r_3, (ρ 1), v82]) W

def F32J1 (K : Value → World → Prop) (ρ : Env) (ds : List Nat) (w : World) : Prop :=
  vFA (some 0) (ρ 10) fun v54 =>
  vLd .one v54 w fun v55 =>
  vBool v55 fun c_3 => if c_3 = true then
   (vBuildSlice Tryd.prog 42 0 [] w fun v56 w_12 =>
   vAppend Tryd.prog 42 42 v56 (ρ 1) w_12 fun v58 w_13 =>
   loopF [1, 2, 4, 9, 10, 11, 12] [v58, (ρ 2), (ρ 4), (ρ 9), (ρ 10), (ρ 11), (.int .i64 0)] ds w_13 (F32L1 K))
  else
  vLd (.agg 17) (ρ 2) w fun v77_2 =>
  vLd (.agg 5) (ρ 9) w fun v78_2 =>
  CallK Tryd.prog 52 #[v77_2, v78_2, (ρ 11)] w fun v80_2 w_19 =>
  vExt v80_2 0 fun v81_2 =>
  vExt v80_2 1 fun v82_2 =>
  vAlloc Tryd.prog 25 w_19 fun v13_2 w_20 =>
  vSt (some 17) v13_2 v81_2 w_20 fun w_21 =>
  vLd (.agg 17) v13_2 w_21 fun v83_2 =>
  vSt (some 17) (ρ 4) v83_2 w_21 fun w_22 =>
  leaveV ds w_22 fun W => vLd (.agg 17) (ρ 4) W fun r_4 => K (.tuple #[r_4, (ρ 1), v82_2]) W

/-- gatehouse/gatehouseref06.Step -/
def F32 (t0 : Value) (t1 : Value) (w : World) (K : Value → World → Prop) : Prop :=
  vBox 25 t0 w fun v2 w =>
  vAlloc Tryd.prog 25 w fun v4 w_2 =>
  vFA (some 16) v2 fun v17 =>
  vLd .one v17 w_2 fun v18 =>
  CallK Tryd.prog 49 #[t1, v18, (.int .i64 4)] w_2 fun v19 w_3 =>
  vExt v19 0 fun v20 =>
  vExt v19 1 fun v21 =>
  vUn .not v21 fun v23 =>
  vBool v23 fun c => if c = true then
   (vLd (.agg 17) v2 w_3 fun v24 =>
   vSt (some 17) v4 v24 w_3 fun w_4 =>
   vLd (.agg 17) v4 w_4 fun r => K (.tuple #[r, t1, (.int .i64 3)]) w_4)
  else
  CallK Tryd.prog 50 #[v20] w_3 fun v28 w_5 =>
  vExt v28 0 fun v29 =>
  vExt v28 1 fun v30 =>
  vAlloc Tryd.prog 48 w_5 fun v9 w_6 =>
  vSt (some 5) v9 v29 w_6 fun w_7 =>
  vUn .not v30 fun v32 =>
  vBool v32 fun c_2 => if c_2 = true then
   (vLd (.agg 17) v2 w_7 fun v33 =>
   vSt (some 17) v4 v33 w_7 fun w_8 =>
   vLd (.agg 17) v4 w_8 fun r_2 => K (.tuple #[r_2, t1, (.int .i64 4)]) w_8)
  else
  vLd (.agg 17) v2 w_7 fun v35 =>
  vLd (.agg 5) v9 w_7 fun v36 =>
  CallK Tryd.prog 51 #[v35, v36] w_7 fun v37 w_9 =>
  vAlloc Tryd.prog 114 w_9 fun v10 w_10 =>
  vSt (some 4) v10 v37 w_10 fun w_11 =>
  joinF [1, 2, 4, 9, 10, 11] (fun J1 =>
  vFA (some 2) v10 fun v38 =>
  vLd .one v38 w_11 fun v39 =>
  vBin (.int .i64) .gtr v39 (.int .i64 0) fun v40 =>
  vBool v40 fun c_3 => if c_3 = true then
   (vFA (some 1) v10 fun v43 =>
   vLd .one v43 w_11 fun v44 =>
   vFA (some 2) v10 fun v45 =>
   vLd .one v45 w_11 fun v46 =>
   CallK Tryd.prog 49 #[t1, v44, v46] w_11 fun v47 w_12 =>
   vExt v47 0 fun v48 =>
   vExt v47 1 fun v49 =>
   vUn .not v49 fun v51 =>
   vBool v51 fun c_4 => if c_4 = true then
    (vLd (.agg 17) v2 w_12 fun v52 =>
    vSt (some 17) v4 v52 w_12 fun w_13 =>
    vLd (.agg 17) v4 w_13 fun r_3 => K (.tuple #[r_3, t1, (.int .i64 3)]) w_13)
   else
   J1 [t1, v2, v4, v9, v10, v48] [] w_12)
  else
  J1 [t1, v2, v4, v9, v10, (.string ⟨#[]⟩)] [] w_11)
  (F32J1 K)

def tab32 : Tab := { sel := [(16, [1, 2, 4, 9, 10, 11, 12])], plan := [(18, (.take 0 (.take 1 (.take 2 (.take 3 (.take 4 (.take 5 (.take 6 (.take 7 (.take 8 (.take 9 (.take 10 (.alt 11 .done .stop)))))))))))))], join := [(13, [1, 2, 4, 9, 10, 11])] }

theorem F32_eq (t0 : Value) (t1 : Value) (w : World) (K : Value → World → Prop) : enterV Tryd.prog tab32 Tryd.f32 [t0, t1] w K = F32 t0 t1 w K := by kernel_rfl

theorem F32_ok {t0 : Value} {t1 : Value} {w : World} {K : Value → World → Prop} (h : F32 t0 t1 w K) : Ret Tryd.prog 32 #[t0, t1] w K :=
  enter_sound (T := tab32) (args := [t0, t1]) Tryd.func32 Tryd.call32 mixed (by kernel_rfl) (by rw [F32_eq]; exact h)

/-- (*gatehouse/pages.Bytes).Len -/
def F33 (t0 : Value) (w : World) (K : Value → World → Prop) : Prop :=
  vPtr .eql t0 (.pointer none) w fun v4 =>
  vBool v4 fun c => if c = true then
   (K (.int .i64 0) w)
  else
  vNilP Tryd.prog t0 fun v6 =>
  vFA (some 0) v6 fun v7 =>
  vLd .one v7 w fun v8 =>
  K v8 w

def tab33 : Tab := { sel := [], plan := [], join := [] }

theorem F33_eq (t0 : Value) (w : World) (K : Value → World → Prop) : enterV Tryd.prog tab33 Tryd.f33 [t0] w K = F33 t0 w K := by kernel_rfl

theorem F33_ok {t0 : Value} {w : World} {K : Value → World → Prop} (h : F33 t0 w K) : Ret Tryd.prog 33 #[t0] w K :=
  enter_sound (T := tab33) (args := [t0]) Tryd.func33 Tryd.call33 mixed (by kernel_rfl) (by rw [F33_eq]; exact h)

/-- gatehouse/gatehouseref02.Name -/
def F34 (t0 : Value) (w : World) (K : Value → World → Prop) : Prop :=
  vBin (.int .i64) .eql t0 (.int .i64 0) fun v5 =>
  vBool v5 fun c => if c = true then
   (K (.string ⟨#[104, 97, 108, 116]⟩) w)
  else
  vBin (.int .i64) .eql t0 (.int .i64 1) fun v7 =>
  vBool v7 fun c_2 => if c_2 = true then
   (K (.string ⟨#[110, 111, 112]⟩) w)
  else
  vBin (.int .i64) .eql t0 (.int .i64 2) fun v9 =>
  vBool v9 fun c_3 => if c_3 = true then
   (K (.string ⟨#[115, 121, 115]⟩) w)
  else
  vBin (.int .i64) .eql t0 (.int .i64 3) fun v11 =>
  vBool v11 fun c_4 => if c_4 = true then
   (K (.string ⟨#[115, 101, 116]⟩) w)
  else
  vBin (.int .i64) .eql t0 (.int .i64 4) fun v13 =>
  vBool v13 fun c_5 => if c_5 = true then
   (K (.string ⟨#[109, 111, 114, 101]⟩) w)
  else
  vBin (.int .i64) .eql t0 (.int .i64 5) fun v15 =>
  vBool v15 fun c_6 => if c_6 = true then
   (K (.string ⟨#[109, 111, 118, 101]⟩) w)
  else
  vBin (.int .i64) .eql t0 (.int .i64 6) fun v17 =>
  vBool v17 fun c_7 => if c_7 = true then
   (K (.string ⟨#[97, 100, 100]⟩) w)
  else
  vBin (.int .i64) .eql t0 (.int .i64 7) fun v19 =>
  vBool v19 fun c_8 => if c_8 = true then
   (K (.string ⟨#[115, 117, 98]⟩) w)
  else
  vBin (.int .i64) .eql t0 (.int .i64 8) fun v21 =>
  vBool v21 fun c_9 => if c_9 = true then
   (K (.string ⟨#[109, 117, 108]⟩) w)
  else
  vBin (.int .i64) .eql t0 (.int .i64 9) fun v23 =>
  vBool v23 fun c_10 => if c_10 = true then
   (K (.string ⟨#[100, 105, 118]⟩) w)
  else
  vBin (.int .i64) .eql t0 (.int .i64 10) fun v25 =>
  vBool v25 fun c_11 => if c_11 = true then
   (K (.string ⟨#[109, 111, 100]⟩) w)
  else
  vBin (.int .i64) .eql t0 (.int .i64 11) fun v27 =>
  vBool v27 fun c_12 => if c_12 = true then
   (K (.string ⟨#[97, 110, 100]⟩) w)
  else
  vBin (.int .i64) .eql t0 (.int .i64 12) fun v29 =>
  vBool v29 fun c_13 => if c_13 = true then
   (K (.string ⟨#[111, 114]⟩) w)
  else
  vBin (.int .i64) .eql t0 (.int .i64 13) fun v31 =>
  vBool v31 fun c_14 => if c_14 = true then
   (K (.string ⟨#[120, 111, 114]⟩) w)
  else
  vBin (.int .i64) .eql t0 (.int .i64 14) fun v33 =>
  vBool v33 fun c_15 => if c_15 = true then
   (K (.string ⟨#[115, 104, 108]⟩) w)
  else
  vBin (.int .i64) .eql t0 (.int .i64 15) fun v35 =>
  vBool v35 fun c_16 => if c_16 = true then
   (K (.string ⟨#[115, 104, 114]⟩) w)
  else
  vBin (.int .i64) .eql t0 (.int .i64 16) fun v37 =>
  vBool v37 fun c_17 => if c_17 = true then
   (K (.string ⟨#[108, 101, 115, 115]⟩) w)
  else
  vBin (.int .i64) .eql t0 (.int .i64 17) fun v39 =>
  vBool v39 fun c_18 => if c_18 = true then
   (K (.string ⟨#[115, 97, 109, 101]⟩) w)
  else
  vBin (.int .i64) .eql t0 (.int .i64 18) fun v41 =>
  vBool v41 fun c_19 => if c_19 = true then
   (K (.string ⟨#[108, 111, 97, 100]⟩) w)
  else
  vBin (.int .i64) .eql t0 (.int .i64 19) fun v43 =>
  vBool v43 fun c_20 => if c_20 = true then
   (K (.string ⟨#[107, 101, 101, 112]⟩) w)
  else
  vBin (.int .i64) .eql t0 (.int .i64 20) fun v45 =>
  vBool v45 fun c_21 => if c_21 = true then
   (K (.string ⟨#[112, 117, 108, 108]⟩) w)
  else
  vBin (.int .i64) .eql t0 (.int .i64 21) fun v47 =>
  vBool v47 fun c_22 => if c_22 = true then
   (K (.string ⟨#[112, 117, 115, 104]⟩) w)
  else
  vBin (.int .i64) .eql t0 (.int .i64 22) fun v49 =>
  vBool v49 fun c_23 => if c_23 = true then
   (K (.string ⟨#[103, 111]⟩) w)
  else
  vBin (.int .i64) .eql t0 (.int .i64 23) fun v51 =>
  vBool v51 fun c_24 => if c_24 = true then
   (K (.string ⟨#[122, 101, 114, 111]⟩) w)
  else
  vBin (.int .i64) .eql t0 (.int .i64 24) fun v53 =>
  vBool v53 fun c_25 => if c_25 = true then
   (K (.string ⟨#[110, 111, 116]⟩) w)
  else
  vBin (.int .i64) .eql t0 (.int .i64 25) fun v55 =>
  vBool v55 fun c_26 => if c_26 = true then
   (K (.string ⟨#[99, 97, 108, 108]⟩) w)
  else
  vBin (.int .i64) .eql t0 (.int .i64 26) fun v57 =>
  vBool v57 fun c_27 => if c_27 = true then
   (K (.string ⟨#[98, 97, 99, 107]⟩) w)
  else
  K (.string ⟨#[]⟩) w

def tab34 : Tab := { sel := [], plan := [], join := [] }

theorem F34_eq (t0 : Value) (w : World) (K : Value → World → Prop) : enterV Tryd.prog tab34 Tryd.f34 [t0] w K = F34 t0 w K := by kernel_rfl

theorem F34_ok {t0 : Value} {w : World} {K : Value → World → Prop} (h : F34 t0 w K) : Ret Tryd.prog 34 #[t0] w K :=
  enter_sound (T := tab34) (args := [t0]) Tryd.func34 Tryd.call34 mixed (by kernel_rfl) (by rw [F34_eq]; exact h)

def F35J5 (K : Value → World → Prop) (ρ : Env) (ds : List Nat) (w : World) : Prop :=
  vBool (ρ 24) fun c_4 => if c_4 = true then
   (leaveV ds w fun W => K (.int .i64 4) W)
  else
  vBin (.int .i64) .eql (ρ 0) (.int .i64 22) fun v33 =>
  vBool v33 fun c_5 => if c_5 = true then
   (leaveV ds w fun W => K (.int .i64 5) W)
  else
  vBin (.int .i64) .eql (ρ 0) (.int .i64 23) fun v36 =>
  vBool v36 fun g_4 => if g_4 = true then
  (leaveV ds w fun W => K (.int .i64 6) W)
  else
  (vBin (.int .i64) .eql (ρ 0) (.int .i64 24) fun v39 =>
  vBool v39 fun c_6 => if c_6 = true then
   (leaveV ds w fun W => K (.int .i64 6) W)
  else
  leaveV ds w fun W => K (.int .i64 0) W)

def F35J3 (K : Value → World → Prop) (ρ : Env) (ds : List Nat) (w : World) : Prop :=
  vBool (ρ 10) fun c_2 => if c_2 = true then
   (leaveV ds w fun W => K (.int .i64 2) W)
  else
  vBin (.int .i64) .geq (ρ 0) (.int .i64 6) fun v19 =>
  vBool v19 fun g_2 => if g_2 = true then
  (vBin (.int .i64) .leq (ρ 0) (.int .i64 17) fun v22 =>
  vBool v22 fun c_3 => if c_3 = true then
   (leaveV ds w fun W => K (.int .i64 3) W)
  else
  joinF [0, 24] (fun J5 =>
  vBin (.int .i64) .geq (ρ 0) (.int .i64 18) fun v26 =>
  vBool v26 fun g_3 => if g_3 = true then
  (vBin (.int .i64) .leq (ρ 0) (.int .i64 21) fun v29 =>
  J5 [(ρ 0), v29] ds w)
  else
  (J5 [(ρ 0), (.bool false)] ds w))
  (F35J5 K))
  else
  (joinF [0, 24] (fun J5 =>
  vBin (.int .i64) .geq (ρ 0) (.int .i64 18) fun v26_2 =>
  vBool v26_2 fun g_4 => if g_4 = true then
  (vBin (.int .i64) .leq (ρ 0) (.int .i64 21) fun v29_2 =>
  J5 [(ρ 0), v29_2] ds w)
  else
  (J5 [(ρ 0), (.bool false)] ds w))
  (F35J5 K))

/-- gatehouse/gatehouseref02.Shape -/
def F35 (t0 : Value) (w : World) (K : Value → World → Prop) : Prop :=
  vBin (.int .i64) .eql t0 (.int .i64 3) fun v5 =>
  vBool v5 fun g => if g = true then
  (K (.int .i64 1) w)
  else
  (vBin (.int .i64) .eql t0 (.int .i64 4) fun v8 =>
  vBool v8 fun c => if c = true then
   (K (.int .i64 1) w)
  else
  joinF [0, 10] (fun J3 =>
  vBin (.int .i64) .eql t0 (.int .i64 5) fun v12 =>
  vBool v12 fun g_2 => if g_2 = true then
  (J3 [t0, (.bool true)] [] w)
  else
  (vBin (.int .i64) .eql t0 (.int .i64 25) fun v15 =>
  J3 [t0, v15] [] w))
  (F35J3 K))

def tab35 : Tab := { sel := [], plan := [], join := [(8, [0, 24]), (4, [0, 10])] }

theorem F35_eq (t0 : Value) (w : World) (K : Value → World → Prop) : enterV Tryd.prog tab35 Tryd.f35 [t0] w K = F35 t0 w K := by kernel_rfl

theorem F35_ok {t0 : Value} {w : World} {K : Value → World → Prop} (h : F35 t0 w K) : Ret Tryd.prog 35 #[t0] w K :=
  enter_sound (T := tab35) (args := [t0]) Tryd.func35 Tryd.call35 mixed (by kernel_rfl) (by rw [F35_eq]; exact h)

/-- gatehouse/gatehouseref02.reg -/
def F36 (t0 : Value) (w : World) (K : Value → World → Prop) : Prop :=
  vBin (.int .i64) .geq t0 (.int .i64 0) fun v4 =>
  vBool v4 fun g => if g = true then
  (vBin (.int .i64) .leq t0 (.int .i64 15) fun v7 =>
  K v7 w)
  else
  (K (.bool false) w)

def tab36 : Tab := { sel := [], plan := [], join := [] }

theorem F36_eq (t0 : Value) (w : World) (K : Value → World → Prop) : enterV Tryd.prog tab36 Tryd.f36 [t0] w K = F36 t0 w K := by kernel_rfl

theorem F36_ok {t0 : Value} {w : World} {K : Value → World → Prop} (h : F36 t0 w K) : Ret Tryd.prog 36 #[t0] w K :=
  enter_sound (T := tab36) (args := [t0]) Tryd.func36 Tryd.call36 mixed (by kernel_rfl) (by rw [F36_eq]; exact h)

/-- gatehouse/gatehouseref02.way -/
def F37 (t0 : Value) (w : World) (K : Value → World → Prop) : Prop :=
  vBin (.int .i64) .geq t0 (.int .i64 (-32768)) fun v4 =>
  vBool v4 fun g => if g = true then
  (vBin (.int .i64) .leq t0 (.int .i64 32767) fun v7 =>
  K v7 w)
  else
  (K (.bool false) w)

def tab37 : Tab := { sel := [], plan := [], join := [] }

theorem F37_eq (t0 : Value) (w : World) (K : Value → World → Prop) : enterV Tryd.prog tab37 Tryd.f37 [t0] w K = F37 t0 w K := by kernel_rfl

theorem F37_ok {t0 : Value} {w : World} {K : Value → World → Prop} (h : F37 t0 w K) : Ret Tryd.prog 37 #[t0] w K :=
  enter_sound (T := tab37) (args := [t0]) Tryd.func37 Tryd.call37 mixed (by kernel_rfl) (by rw [F37_eq]; exact h)

/-- (*gatehouse/pages.Bytes).Pages -/
def F38 (t0 : Value) (w : World) (K : Value → World → Prop) : Prop :=
  CallK Tryd.prog 33 #[t0] w fun v4 w =>
  vBin (.int .i64) .add v4 (.int .i64 64) fun v5 =>
  vBin (.int .i64) .sub v5 (.int .i64 1) fun v6 =>
  vBin (.int .i64) .quo v6 (.int .i64 64) fun v7 =>
  K v7 w

def tab38 : Tab := { sel := [], plan := [], join := [] }

theorem F38_eq (t0 : Value) (w : World) (K : Value → World → Prop) : enterV Tryd.prog tab38 Tryd.f38 [t0] w K = F38 t0 w K := by kernel_rfl

theorem F38_ok {t0 : Value} {w : World} {K : Value → World → Prop} (h : F38 t0 w K) : Ret Tryd.prog 38 #[t0] w K :=
  enter_sound (T := tab38) (args := [t0]) Tryd.func38 Tryd.call38 mixed (by kernel_rfl) (by rw [F38_eq]; exact h)

/-- gatehouse/pages.zero -/
def F39 (w : World) (K : Value → World → Prop) : Prop :=
  vBuild Tryd.prog 98 [] fun v1 =>
  vBox 98 v1 w fun v2 w =>
  K v2 w

def tab39 : Tab := { sel := [], plan := [], join := [] }

theorem F39_eq (w : World) (K : Value → World → Prop) : enterV Tryd.prog tab39 Tryd.f39 [] w K = F39 w K := by kernel_rfl

theorem F39_ok {w : World} {K : Value → World → Prop} (h : F39 w K) : Ret Tryd.prog 39 #[] w K :=
  enter_sound (T := tab39) (args := []) Tryd.func39 Tryd.call39 mixed (by kernel_rfl) (by rw [F39_eq]; exact h)

/-- (*strings.Builder).Grow -/
def F40 (t0 : Value) (t1 : Value) (w : World) (K : Value → World → Prop) : Prop :=
  CallK Tryd.prog 48 #[t0] w fun v5 w =>
  vBin (.int .i64) .lss t1 (.int .i64 0) fun v7 =>
  vBool v7 fun c => if c = true then
   (vIface true 9 (.string ⟨#[115, 116, 114, 105, 110, 103, 115, 46, 66, 117, 105, 108, 100, 101, 114, 46, 71, 114, 111, 119, 58, 32, 110, 101, 103, 97, 116, 105, 118, 101, 32, 99, 111, 117, 110, 116]⟩) fun v8 =>
   False)
  else
  drawF w fun S =>
  vNilP Tryd.prog t0 fun v10 =>
  vFA (some 1) v10 fun v11 =>
  vLdS S .one v11 fun v12 =>
  vCap (.slice 1) v12 fun v13 =>
  vNilP Tryd.prog t0 fun v15 =>
  vFA (some 1) v15 fun v16 =>
  vLdS S .one v16 fun v17 =>
  vLen (.slice 1) v17 fun v18 =>
  vBin (.int .i64) .sub v13 v18 fun v19 =>
  vBin (.int .i64) .lss v19 t1 fun v21 =>
  vBool v21 fun c_2 => if c_2 = true then
   (CallK Tryd.prog 53 #[t0, t1] w.drew fun v24 w_2 =>
   K (.tuple #[]) w_2)
  else
  K (.tuple #[]) w.drew

def tab40 : Tab := { sel := [], plan := [(3, (.take 0 (.take 1 (.take 2 (.take 3 (.take 4 (.take 5 (.take 6 (.take 7 (.take 8 (.take 9 (.take 10 (.take 11 (.take 12 .done))))))))))))))], join := [] }

theorem F40_eq (t0 : Value) (t1 : Value) (w : World) (K : Value → World → Prop) : enterV Tryd.prog tab40 Tryd.f40 [t0, t1] w K = F40 t0 t1 w K := by kernel_rfl

theorem F40_ok {t0 : Value} {t1 : Value} {w : World} {K : Value → World → Prop} (h : F40 t0 t1 w K) : Ret Tryd.prog 40 #[t0, t1] w K :=
  enter_sound (T := tab40) (args := [t0, t1]) Tryd.func40 Tryd.call40 mixed (by kernel_rfl) (by rw [F40_eq]; exact h)

/-- (*strings.Builder).WriteString -/
def F41 (t0 : Value) (t1 : Value) (w : World) (K : Value → World → Prop) : Prop :=
  CallK Tryd.prog 48 #[t0] w fun v7 w =>
  vNilP Tryd.prog t0 fun v10 =>
  vFA (some 1) v10 fun v11 =>
  vLd .one v11 w fun v12 =>
  vAppend Tryd.prog 42 9 v12 t1 w fun v14 w_2 =>
  vNilP Tryd.prog t0 fun v15 =>
  vFA (some 1) v15 fun v16 =>
  vSt (some 1) v16 v14 w_2 fun w_3 =>
  vLen .string t1 fun v18 =>
  K (.tuple #[v18, .nilIface]) w_3

def tab41 : Tab := { sel := [], plan := [], join := [] }

theorem F41_eq (t0 : Value) (t1 : Value) (w : World) (K : Value → World → Prop) : enterV Tryd.prog tab41 Tryd.f41 [t0, t1] w K = F41 t0 t1 w K := by kernel_rfl

theorem F41_ok {t0 : Value} {t1 : Value} {w : World} {K : Value → World → Prop} (h : F41 t0 t1 w K) : Ret Tryd.prog 41 #[t0, t1] w K :=
  enter_sound (T := tab41) (args := [t0, t1]) Tryd.func41 Tryd.call41 mixed (by kernel_rfl) (by rw [F41_eq]; exact h)

def F42L1 (K : Value → World → Prop) (ρ : Env) (ds : List Nat) (w : World) (ag1 : List Value → List Nat → World → Prop) : Prop :=
  vLd .one (ρ 1) w fun v6 =>
  vBin (.int .i64) .gtr v6 (.int .i64 0) fun v7 =>
  vBool v7 fun c => if c = true then
   (vLd .one (ρ 2) w fun v8 =>
  vBin (.int .i64) .rem v8 (.int .i64 64) fun v9 =>
  vLd .one (ρ 1) w fun v11 =>
  vBin (.int .i64) .add v9 v11 fun v12 =>
  vMin v12 [(.int .i64 64)] fun v13 =>
  vLd .one (ρ 2) w fun v15 =>
  vBin (.int .i64) .quo v15 (.int .i64 64) fun v16 =>
  vBuild Tryd.prog 68 [(0, v9), (1, v13)] fun v19 =>
  vCallV Tryd.prog (ρ 0) [v16, v19] w fun v20 w =>
  vUn .not v20 fun v21 =>
  vBool v21 fun c_2 => if c_2 = true then
   (leaveV ds w fun W => K (.tuple #[]) W)
  else
  vLd .one (ρ 2) w fun v22 =>
  vBin (.int .i64) .sub v13 v9 fun v25 =>
  vBin (.int .i64) .add v22 v25 fun v26 =>
  vSt (some 1) (ρ 2) v26 w fun w_2 =>
  vLd .one (ρ 1) w_2 fun v27 =>
  vBin (.int .i64) .sub v13 v9 fun v30 =>
  vBin (.int .i64) .sub v27 v30 fun v31 =>
  vSt (some 1) (ρ 1) v31 w_2 fun w_3 =>
  ag1 [(ρ 0), (ρ 1), (ρ 2)] ds w_3)
  else
  leaveV ds w fun W => K (.tuple #[]) W

/-- gatehouse/pages.pieces$1 -/
def F42 (t0 : Value) (t1 : Value) (t2 : Value) (w : World) (K : Value → World → Prop) : Prop :=
  loopF [0, 1, 2] [t0, t1, t2] [] w (F42L1 K)

def tab42 : Tab := { sel := [(0, [0, 1, 2])], plan := [], join := [] }

theorem F42_eq (t0 : Value) (t1 : Value) (t2 : Value) (w : World) (K : Value → World → Prop) : enterV Tryd.prog tab42 Tryd.f42 [t0, t1, t2] w K = F42 t0 t1 t2 w K := by kernel_rfl

theorem F42_ok {t0 : Value} {t1 : Value} {t2 : Value} {w : World} {K : Value → World → Prop} (h : F42 t0 t1 t2 w K) : Ret Tryd.prog 42 #[t0, t1, t2] w K :=
  enter_sound (T := tab42) (args := [t0, t1, t2]) Tryd.func42 Tryd.call42 mixed (by kernel_rfl) (by rw [F42_eq]; exact h)

def F43J7 (K : Value → World → Prop) (ρ : Env) (ds : List Nat) (w : World) : Prop :=
  vBool (ρ 58) fun c_7 => if c_7 = true then
   (vFA (some 1) (ρ 4) fun v65 =>
   vSt (some 1) v65 (.int .i64 1) w fun w_18 =>
   vFA (some 2) (ρ 4) fun v66 =>
   vSt (some 1) v66 (.int .i64 3) w_18 fun w_19 =>
   vLd (.agg 3) (ρ 4) w_19 fun v67_6 =>
  vSt (some 3) (ρ 2) v67_6 w_19 fun w_20 =>
  leaveV ds w_20 fun W => vLd (.agg 3) (ρ 2) W fun r_7 => K r_7 W)
  else
  vLd (.agg 3) (ρ 4) w fun v67_7 =>
  vSt (some 3) (ρ 2) v67_7 w fun w_21 =>
  leaveV ds w_21 fun W => vLd (.agg 3) (ρ 2) W fun r_8 => K r_8 W

def F43J6 (K : Value → World → Prop) (ρ : Env) (ds : List Nat) (w : World) : Prop :=
  vBool (ρ 45) fun c_5 => if c_5 = true then
   (vFA (some 1) (ρ 4) fun v52 =>
   vSt (some 1) v52 (.int .i64 2) w fun w_13 =>
   vFA (some 2) (ρ 4) fun v53 =>
   vSt (some 1) v53 (.int .i64 2) w_13 fun w_14 =>
   vLd (.agg 3) (ρ 4) w_14 fun v67_4 =>
  vSt (some 3) (ρ 2) v67_4 w_14 fun w_15 =>
  leaveV ds w_15 fun W => vLd (.agg 3) (ρ 2) W fun r_5 => K r_5 W)
  else
  vBin (.int .i64) .eql (ρ 0) (.int .i64 22) fun v56 =>
  vBool v56 fun c_6 => if c_6 = true then
   (vFA (some 2) (ρ 4) fun v57 =>
   vSt (some 1) v57 (.int .i64 3) w fun w_16 =>
   vLd (.agg 3) (ρ 4) w_16 fun v67_5 =>
  vSt (some 3) (ρ 2) v67_5 w_16 fun w_17 =>
  leaveV ds w_17 fun W => vLd (.agg 3) (ρ 2) W fun r_6 => K r_6 W)
  else
  joinF [2, 4, 58] (fun J7 =>
  vBin (.int .i64) .eql (ρ 0) (.int .i64 23) fun v60 =>
  vBool v60 fun g => if g = true then
  (J7 [(ρ 2), (ρ 4), (.bool true)] ds w)
  else
  (vBin (.int .i64) .eql (ρ 0) (.int .i64 24) fun v63 =>
  J7 [(ρ 2), (ρ 4), v63] ds w))
  (F43J7 K)

def F43J5 (K : Value → World → Prop) (ρ : Env) (ds : List Nat) (w : World) : Prop :=
  vBool (ρ 37) fun c_4 => if c_4 = true then
   (vFA (some 1) (ρ 4) fun v44 =>
   vSt (some 1) v44 (.int .i64 3) w fun w_11 =>
   vLd (.agg 3) (ρ 4) w_11 fun v67_3 =>
  vSt (some 3) (ρ 2) v67_3 w_11 fun w_12 =>
  leaveV ds w_12 fun W => vLd (.agg 3) (ρ 2) W fun r_4 => K r_4 W)
  else
  joinF [0, 2, 4, 45] (fun J6 =>
  vBin (.int .i64) .geq (ρ 0) (.int .i64 18) fun v47 =>
  vBool v47 fun g => if g = true then
  (vBin (.int .i64) .leq (ρ 0) (.int .i64 21) fun v50 =>
  J6 [(ρ 0), (ρ 2), (ρ 4), v50] ds w)
  else
  (J6 [(ρ 0), (ρ 2), (ρ 4), (.bool false)] ds w))
  (F43J6 K)

def F43J4 (K : Value → World → Prop) (ρ : Env) (ds : List Nat) (w : World) : Prop :=
  vBool (ρ 29) fun c_3 => if c_3 = true then
   (vFA (some 1) (ρ 4) fun v36 =>
   vSt (some 1) v36 (.int .i64 2) w fun w_9 =>
   vLd (.agg 3) (ρ 4) w_9 fun v67_2 =>
  vSt (some 3) (ρ 2) v67_2 w_9 fun w_10 =>
  leaveV ds w_10 fun W => vLd (.agg 3) (ρ 2) W fun r_3 => K r_3 W)
  else
  joinF [0, 2, 4, 37] (fun J5 =>
  vBin (.int .i64) .geq (ρ 0) (.int .i64 6) fun v39 =>
  vBool v39 fun g => if g = true then
  (vBin (.int .i64) .leq (ρ 0) (.int .i64 17) fun v42 =>
  J5 [(ρ 0), (ρ 2), (ρ 4), v42] ds w)
  else
  (J5 [(ρ 0), (ρ 2), (ρ 4), (.bool false)] ds w))
  (F43J5 K)

def F43J3 (K : Value → World → Prop) (ρ : Env) (ds : List Nat) (w : World) : Prop :=
  vBool (ρ 20) fun c_2 => if c_2 = true then
   (vFA (some 1) (ρ 4) fun v27 =>
   vSt (some 1) v27 (.int .i64 1) w fun w_6 =>
   vFA (some 2) (ρ 4) fun v28 =>
   vSt (some 1) v28 (.int .i64 1) w_6 fun w_7 =>
   vLd (.agg 3) (ρ 4) w_7 fun v67 =>
  vSt (some 3) (ρ 2) v67 w_7 fun w_8 =>
  leaveV ds w_8 fun W => vLd (.agg 3) (ρ 2) W fun r_2 => K r_2 W)
  else
  joinF [0, 2, 4, 29] (fun J4 =>
  vBin (.int .i64) .eql (ρ 0) (.int .i64 5) fun v31 =>
  vBool v31 fun g => if g = true then
  (J4 [(ρ 0), (ρ 2), (ρ 4), (.bool true)] ds w)
  else
  (vBin (.int .i64) .eql (ρ 0) (.int .i64 25) fun v34 =>
  J4 [(ρ 0), (ρ 2), (ρ 4), v34] ds w))
  (F43J4 K)

def F43J1 (K : Value → World → Prop) (ρ : Env) (ds : List Nat) (w : World) : Prop :=
  vBool (ρ 13) fun c => if c = true then
   (vBuild Tryd.prog 100 [] fun v14 =>
   vSt (some 3) (ρ 2) v14 w fun w_3 =>
   leaveV ds w_3 fun W => vLd (.agg 3) (ρ 2) W fun r => K r W)
  else
  vIA (.slice 1) (ρ 3) (ρ 0) fun v17 =>
  vLd .one v17 w fun v18 =>
  vBuild Tryd.prog 100 [(0, v18)] fun v19 =>
  vAlloc Tryd.prog 100 w fun v4 w_4 =>
  vSt (some 3) v4 v19 w_4 fun w_5 =>
  joinF [0, 2, 4, 20] (fun J3 =>
  vBin (.int .i64) .eql (ρ 0) (.int .i64 3) fun v22 =>
  vBool v22 fun g => if g = true then
  (J3 [(ρ 0), (ρ 2), v4, (.bool true)] ds w_5)
  else
  (vBin (.int .i64) .eql (ρ 0) (.int .i64 4) fun v25 =>
  J3 [(ρ 0), (ρ 2), v4, v25] ds w_5))
  (F43J3 K)

/-- gatehouse/isa.shapeOf -/
def F43 (t0 : Value) (w : World) (K : Value → World → Prop) : Prop :=
  vAlloc Tryd.prog 100 w fun v2 w =>
  CallK Tryd.prog 54 #[(.string ⟨#[104, 97, 108, 116, 32, 110, 111, 112, 32, 115, 121, 115, 32, 115, 101, 116, 32, 109, 111, 114, 101, 32, 109, 111, 118, 101, 32, 97, 100, 100, 32, 115, 117, 98, 32, 109, 117, 108, 32, 100, 105, 118, 32, 109, 111, 100, 32, 97, 110, 100, 32, 111, 114, 32, 120, 111, 114, 32, 115, 104, 108, 32, 115, 104, 114, 32, 108, 101, 115, 115, 32, 115, 97, 109, 101, 32, 108, 111, 97, 100, 32, 107, 101, 101, 112, 32, 112, 117, 108, 108, 32, 112, 117, 115, 104, 32, 103, 111, 32, 122, 101, 114, 111, 32, 110, 111, 116, 32, 99, 97, 108, 108, 32, 98, 97, 99, 107]⟩)] w fun v5 w_2 =>
  joinF [0, 2, 3, 13] (fun J1 =>
  vBin (.int .i64) .lss t0 (.int .i64 0) fun v7 =>
  vBool v7 fun g => if g = true then
  (J1 [t0, v2, v5, (.bool true)] [] w_2)
  else
  (vLen (.slice 1) v5 fun v11 =>
  vBin (.int .i64) .geq t0 v11 fun v12 =>
  J1 [t0, v2, v5, v12] [] w_2))
  (F43J1 K)

def tab43 : Tab := { sel := [], plan := [], join := [(16, [2, 4, 58]), (12, [0, 2, 4, 45]), (10, [0, 2, 4, 37]), (8, [0, 2, 4, 29]), (6, [0, 2, 4, 20]), (3, [0, 2, 3, 13])] }

theorem F43_eq (t0 : Value) (w : World) (K : Value → World → Prop) : enterV Tryd.prog tab43 Tryd.f43 [t0] w K = F43 t0 w K := by kernel_rfl

theorem F43_ok {t0 : Value} {w : World} {K : Value → World → Prop} (h : F43 t0 w K) : Ret Tryd.prog 43 #[t0] w K :=
  enter_sound (T := tab43) (args := [t0]) Tryd.func43 Tryd.call43 mixed (by kernel_rfl) (by rw [F43_eq]; exact h)

def F44J2 (K : Value → World → Prop) (ρ : Env) (ds : List Nat) (w : World) : Prop :=
  vBool (ρ 25) fun c_2 => if c_2 = true then
   (drawF2 w fun S T =>
   vFA (some 4) (ρ 1) fun v28 =>
   vLdS S .one v28 fun v29 =>
   vConv (.int .u8) v29 fun v30 =>
   vFA (some 4) (ρ 1) fun v31 =>
   vLdS (fun w => S w ∨ T w) .one v31 fun v32 =>
   vBin (.int .i64) .shr v32 (.int .u64 8) fun v33 =>
   vConv (.int .u8) v33 fun v34 =>
   vIA (.arr 4 1) (ρ 4) (.int .i64 2) fun v35 =>
   (vSt (some 1) v35 v30 w.drew fun w_6 =>
   T w_6 ∧ (vIA (.arr 4 1) (ρ 4) (.int .i64 3) fun v36 =>
   (vSt (some 1) v36 v34 w_6 fun w_7 =>
   (vSlice (.arr 4 1) (ρ 4) none none fun v43 =>
  vB2S v43 w_7 fun v44 =>
  leaveV ds w_7 fun W => K (.tuple #[v44, (.int .i64 0)]) W)) ∧
   (True))) ∧
   (True))
  else
  vBin (.int .i64) .eql (ρ 24) (.int .i64 2) fun v38 =>
  vBool v38 fun c_3 => if c_3 = true then
   (vFA (some 4) (ρ 1) fun v39 =>
   vLd .one v39 w fun v40 =>
   vConv (.int .u8) v40 fun v41 =>
   vIA (.arr 4 1) (ρ 4) (.int .i64 3) fun v42 =>
   vSt (some 1) v42 v41 w fun w_8 =>
   vSlice (.arr 4 1) (ρ 4) none none fun v43_2 =>
  vB2S v43_2 w_8 fun v44_2 =>
  leaveV ds w_8 fun W => K (.tuple #[v44_2, (.int .i64 0)]) W)
  else
  vSlice (.arr 4 1) (ρ 4) none none fun v43_3 =>
  vB2S v43_3 w fun v44_3 =>
  leaveV ds w fun W => K (.tuple #[v44_3, (.int .i64 0)]) W

/-- gatehouse/isa.Encode -/
def F44 (t0 : Value) (w : World) (K : Value → World → Prop) : Prop :=
  vBox 48 t0 w fun v1 w =>
  vLd (.agg 5) v1 w fun v5 =>
  CallK Tryd.prog 55 #[v5] w fun v6 w_2 =>
  vUn .not v6 fun v7 =>
  vBool v7 fun c => if c = true then
   (K (.tuple #[(.string ⟨#[]⟩), (.int .i64 12)]) w_2)
  else
  vFA (some 0) v1 fun v8 =>
  vLd .one v8 w_2 fun v9 =>
  vConv (.int .u8) v9 fun v10 =>
  vFA (some 1) v1 fun v11 =>
  vLd .one v11 w_2 fun v12 =>
  vConv (.int .u8) v12 fun v13 =>
  vFA (some 2) v1 fun v14 =>
  vLd .one v14 w_2 fun v15 =>
  vConv (.int .u8) v15 fun v16 =>
  vFA (some 3) v1 fun v17 =>
  vLd .one v17 w_2 fun v18 =>
  vConv (.int .u8) v18 fun v19 =>
  vBuild Tryd.prog 119 [(0, v10), (1, v13), (2, v16), (3, v19)] fun v20 =>
  vAlloc Tryd.prog 119 w_2 fun v4 w_3 =>
  vSt (some 4) v4 v20 w_3 fun w_4 =>
  vFA (some 0) v1 fun v21 =>
  vLd .one v21 w_4 fun v22 =>
  CallK Tryd.prog 43 #[v22] w_4 fun v23 w_5 =>
  vField (some (.one, 2)) v23 fun v24 =>
  joinF [1, 4, 24, 25] (fun J2 =>
  vBin (.int .i64) .eql v24 (.int .i64 1) fun v26 =>
  vBool v26 fun c_2 => if c_2 = true then
   (J2 [v1, v4, v24, v26] [] w_5)
  else
  vBin (.int .i64) .eql v24 (.int .i64 3) fun v27 =>
  J2 [v1, v4, v24, v27] [] w_5)
  (F44J2 K)

def tab44 : Tab := { sel := [], plan := [(7, (.take 0 (.take 1 (.take 2 (.take 3 (.take 4 (.take 5 (.take 6 (.take 7 (.alt 8 (.take 9 (.alt 10 .done .stop)) .stop))))))))))], join := [(7, [1, 4, 24, 25])] }

theorem F44_eq (t0 : Value) (w : World) (K : Value → World → Prop) : enterV Tryd.prog tab44 Tryd.f44 [t0] w K = F44 t0 w K := by kernel_rfl

theorem F44_ok {t0 : Value} {w : World} {K : Value → World → Prop} (h : F44 t0 w K) : Ret Tryd.prog 44 #[t0] w K :=
  enter_sound (T := tab44) (args := [t0]) Tryd.func44 Tryd.call44 mixed (by kernel_rfl) (by rw [F44_eq]; exact h)

def F45L1 (K : Value → World → Prop) (ρ : Env) (ds : List Nat) (w : World) (ag1 : List Value → List Nat → World → Prop) : Prop :=
  vBin (.int .i64) .lss (ρ 11) (ρ 10) fun v12 =>
  vBool v12 fun c => if c = true then
   (vConv (.int .u8) (ρ 0) fun v17 =>
  vIA (.slice 1) (ρ 5) (ρ 11) fun v18 =>
  vSt (some 1) v18 v17 w fun w_2 =>
  vBin (.int .u64) .shr (ρ 0) (.int .u64 8) fun v20 =>
  vBin (.int .i64) .add (ρ 11) (.int .i64 1) fun v21 =>
  ag1 [v20, (ρ 5), (ρ 10), v21] ds w_2)
  else
  vB2S (ρ 5) w fun v23 =>
  leaveV ds w fun W => K v23 W

/-- gatehouse/cpu.bytes -/
def F45 (t0 : Value) (t1 : Value) (w : World) (K : Value → World → Prop) : Prop :=
  vMakeSlice Tryd.prog 42 t1 t1 w fun v8 w =>
  vLen (.slice 1) v8 fun v10 =>
  loopF [0, 5, 10, 11] [t0, v8, v10, (.int .i64 0)] [] w (F45L1 K)

def tab45 : Tab := { sel := [(3, [0, 5, 10, 11])], plan := [], join := [] }

theorem F45_eq (t0 : Value) (t1 : Value) (w : World) (K : Value → World → Prop) : enterV Tryd.prog tab45 Tryd.f45 [t0, t1] w K = F45 t0 t1 w K := by kernel_rfl

theorem F45_ok {t0 : Value} {t1 : Value} {w : World} {K : Value → World → Prop} (h : F45 t0 t1 w K) : Ret Tryd.prog 45 #[t0, t1] w K :=
  enter_sound (T := tab45) (args := [t0, t1]) Tryd.func45 Tryd.call45 mixed (by kernel_rfl) (by rw [F45_eq]; exact h)

def F46L1 (K : Value → World → Prop) (ρ : Env) (ds : List Nat) (w : World) (ag1 : List Value → List Nat → World → Prop) : Prop :=
  vBin (.int .i64) .geq (ρ 4) (.int .i64 0) fun v9 =>
  vBool v9 fun c => if c = true then
   (vBin (.int .u64) .shl (ρ 3) (.int .u64 8) fun v13 =>
  vIx .string .bad (ρ 0) (ρ 4) fun v16 =>
  vConv (.int .u64) v16 fun v17 =>
  vBin (.int .u64) .or v13 v17 fun v18 =>
  vBin (.int .i64) .sub (ρ 4) (.int .i64 1) fun v11 =>
  ag1 [(ρ 0), v18, v11] ds w)
  else
  leaveV ds w fun W => K (ρ 3) W

/-- gatehouse/cpu.number -/
def F46 (t0 : Value) (w : World) (K : Value → World → Prop) : Prop :=
  vLen .string t0 fun v6 =>
  vBin (.int .i64) .sub v6 (.int .i64 1) fun v7 =>
  loopF [0, 3, 4] [t0, (.int .u64 0), v7] [] w (F46L1 K)

def tab46 : Tab := { sel := [(3, [0, 3, 4])], plan := [], join := [] }

theorem F46_eq (t0 : Value) (w : World) (K : Value → World → Prop) : enterV Tryd.prog tab46 Tryd.f46 [t0] w K = F46 t0 w K := by kernel_rfl

theorem F46_ok {t0 : Value} {w : World} {K : Value → World → Prop} (h : F46 t0 w K) : Ret Tryd.prog 46 #[t0] w K :=
  enter_sound (T := tab46) (args := [t0]) Tryd.func46 Tryd.call46 mixed (by kernel_rfl) (by rw [F46_eq]; exact h)

/-- gatehouse/cpu.flag -/
def F47 (t0 : Value) (w : World) (K : Value → World → Prop) : Prop :=
  vBool t0 fun c => if c = true then
   (K (.int .u64 1) w)
  else
  K (.int .u64 0) w

def tab47 : Tab := { sel := [], plan := [], join := [] }

theorem F47_eq (t0 : Value) (w : World) (K : Value → World → Prop) : enterV Tryd.prog tab47 Tryd.f47 [t0] w K = F47 t0 w K := by kernel_rfl

theorem F47_ok {t0 : Value} {w : World} {K : Value → World → Prop} (h : F47 t0 w K) : Ret Tryd.prog 47 #[t0] w K :=
  enter_sound (T := tab47) (args := [t0]) Tryd.func47 Tryd.call47 mixed (by kernel_rfl) (by rw [F47_eq]; exact h)

/-- (*strings.Builder).copyCheck -/
def F48 (t0 : Value) (w : World) (K : Value → World → Prop) : Prop :=
  vNilP Tryd.prog t0 fun v3 =>
  vFA (some 0) v3 fun v4 =>
  vLd .one v4 w fun v5 =>
  vPtr .eql v5 (.pointer none) w fun v6 =>
  vBool v6 fun c => if c = true then
   (vToU t0 w fun v9 =>
   CallK Tryd.prog 56 #[v9] w fun v10 w =>
   vFromU Tryd.prog 81 v10 w fun v11 =>
   vNilP Tryd.prog t0 fun v12 =>
   vFA (some 0) v12 fun v13 =>
   vSt (some 1) v13 v11 w fun w_2 =>
   K (.tuple #[]) w_2)
  else
  vNilP Tryd.prog t0 fun v15 =>
  vFA (some 0) v15 fun v16 =>
  vLd .one v16 w fun v17 =>
  vPtr .neq v17 t0 w fun v19 =>
  vBool v19 fun c_2 => if c_2 = true then
   (False)
  else
  K (.tuple #[]) w

def tab48 : Tab := { sel := [], plan := [], join := [] }

theorem F48_eq (t0 : Value) (w : World) (K : Value → World → Prop) : enterV Tryd.prog tab48 Tryd.f48 [t0] w K = F48 t0 w K := by kernel_rfl

theorem F48_ok {t0 : Value} {w : World} {K : Value → World → Prop} (h : F48 t0 w K) : Ret Tryd.prog 48 #[t0] w K :=
  enter_sound (T := tab48) (args := [t0]) Tryd.func48 Tryd.call48 mixed (by kernel_rfl) (by rw [F48_eq]; exact h)

/-- gatehouse/gatehouseref06.Load -/
def F49 (t0 : Value) (t1 : Value) (t2 : Value) (w : World) (K : Value → World → Prop) : Prop :=
  vLen (.slice 1) t0 fun v10 =>
  vConv (.int .u64) v10 fun v11 =>
  vBin (.int .u64) .gtr t1 v11 fun v12 =>
  vBool v12 fun g => if g = true then
  (K (.tuple #[(.string ⟨#[]⟩), (.bool false)]) w)
  else
  (vLen (.slice 1) t0 fun v16 =>
  vConv (.int .i64) t1 fun v18 =>
  vBin (.int .i64) .sub v16 v18 fun v19 =>
  vBin (.int .i64) .gtr t2 v19 fun v20 =>
  vBool v20 fun c => if c = true then
   (K (.tuple #[(.string ⟨#[]⟩), (.bool false)]) w)
  else
  vConv (.int .i64) t1 fun v24 =>
  vConv (.int .i64) t1 fun v26 =>
  vBin (.int .i64) .add v26 t2 fun v28 =>
  vSlice (.slice 1) t0 (some v24) (some v28) fun v29 =>
  vB2S v29 w fun v30 =>
  K (.tuple #[v30, (.bool true)]) w)

def tab49 : Tab := { sel := [], plan := [], join := [] }

theorem F49_eq (t0 : Value) (t1 : Value) (t2 : Value) (w : World) (K : Value → World → Prop) : enterV Tryd.prog tab49 Tryd.f49 [t0, t1, t2] w K = F49 t0 t1 t2 w K := by kernel_rfl

theorem F49_ok {t0 : Value} {t1 : Value} {t2 : Value} {w : World} {K : Value → World → Prop} (h : F49 t0 t1 t2 w K) : Ret Tryd.prog 49 #[t0, t1, t2] w K :=
  enter_sound (T := tab49) (args := [t0, t1, t2]) Tryd.func49 Tryd.call49 mixed (by kernel_rfl) (by rw [F49_eq]; exact h)

def F50J2 (K : Value → World → Prop) (ρ : Env) (ds : List Nat) (w : World) : Prop :=
  vBool (ρ 40) fun c_3 => if c_3 = true then
   (vFA (some 4) (ρ 4) fun v44 =>
   vSt (some 1) v44 (ρ 5) w fun w_9 =>
   vBin (.int .i64) .geq (ρ 5) (.int .i64 32768) fun v46 =>
   vBool v46 fun c_4 => if c_4 = true then
    (vBin (.int .i64) .sub (ρ 5) (.int .i64 65536) fun v48 =>
    vFA (some 4) (ρ 4) fun v49 =>
    vSt (some 1) v49 v48 w_9 fun w_10 =>
    drawF2 w_10 fun S_4 T_2 =>
  vLdS S_4 (.agg 5) (ρ 4) fun v60_2 =>
  vLdS (fun w => S_4 w ∨ T_2 w) (.agg 5) (ρ 4) fun v61_2 =>
  (CallK Tryd.prog 19 #[v61_2] w_10.drew fun v62_2 w_11 =>
  S_4 w_11 ∧ ((vSt (some 5) (ρ 2) v60_2 w_11 fun w_12 =>
  T_2 w_12 ∧ (leaveV ds w_12 fun W => vLd (.agg 5) (ρ 2) W fun r_3 => K (.tuple #[r_3, v62_2]) W)) ∧
  (True))) ∧
  (True))
   else
   drawF2 w_9 fun S_5 T_3 =>
  vLdS S_5 (.agg 5) (ρ 4) fun v60_3 =>
  vLdS (fun w => S_5 w ∨ T_3 w) (.agg 5) (ρ 4) fun v61_3 =>
  (CallK Tryd.prog 19 #[v61_3] w_9.drew fun v62_3 w_13 =>
  S_5 w_13 ∧ ((vSt (some 5) (ρ 2) v60_3 w_13 fun w_14 =>
  T_3 w_14 ∧ (leaveV ds w_14 fun W => vLd (.agg 5) (ρ 2) W fun r_4 => K (.tuple #[r_4, v62_3]) W)) ∧
  (True))) ∧
  (True))
  else
  vBin (.int .i64) .eql (ρ 27) (.int .i64 4) fun v51 =>
  vBool v51 fun c_5 => if c_5 = true then
   (vIx .string .bad (ρ 0) (.int .i64 2) fun v53 =>
   vConv (.int .i64) v53 fun v54 =>
   vFA (some 2) (ρ 4) fun v55 =>
   vSt (some 1) v55 v54 w fun w_15 =>
   vIx .string .bad (ρ 0) (.int .i64 3) fun v57 =>
   vConv (.int .i64) v57 fun v58 =>
   vFA (some 4) (ρ 4) fun v59 =>
   vSt (some 1) v59 v58 w_15 fun w_16 =>
   drawF2 w_16 fun S_6 T_4 =>
  vLdS S_6 (.agg 5) (ρ 4) fun v60_4 =>
  vLdS (fun w => S_6 w ∨ T_4 w) (.agg 5) (ρ 4) fun v61_4 =>
  (CallK Tryd.prog 19 #[v61_4] w_16.drew fun v62_4 w_17 =>
  S_6 w_17 ∧ ((vSt (some 5) (ρ 2) v60_4 w_17 fun w_18 =>
  T_4 w_18 ∧ (leaveV ds w_18 fun W => vLd (.agg 5) (ρ 2) W fun r_5 => K (.tuple #[r_5, v62_4]) W)) ∧
  (True))) ∧
  (True))
  else
  vIx .string .bad (ρ 0) (.int .i64 2) fun v29 =>
  vConv (.int .i64) v29 fun v30 =>
  vFA (some 2) (ρ 4) fun v31 =>
  vSt (some 1) v31 v30 w fun w_19 =>
  vIx .string .bad (ρ 0) (.int .i64 3) fun v33 =>
  vConv (.int .i64) v33 fun v34 =>
  vFA (some 3) (ρ 4) fun v35 =>
  vSt (some 1) v35 v34 w_19 fun w_20 =>
  drawF2 w_20 fun S_7 T_5 =>
  vLdS S_7 (.agg 5) (ρ 4) fun v60_5 =>
  vLdS (fun w => S_7 w ∨ T_5 w) (.agg 5) (ρ 4) fun v61_5 =>
  (CallK Tryd.prog 19 #[v61_5] w_20.drew fun v62_5 w_21 =>
  S_7 w_21 ∧ ((vSt (some 5) (ρ 2) v60_5 w_21 fun w_22 =>
  T_5 w_22 ∧ (leaveV ds w_22 fun W => vLd (.agg 5) (ρ 2) W fun r_6 => K (.tuple #[r_6, v62_5]) W)) ∧
  (True))) ∧
  (True)

/-- gatehouse/gatehouseref02.Decode -/
def F50 (t0 : Value) (w : World) (K : Value → World → Prop) : Prop :=
  vAlloc Tryd.prog 48 w fun v2 w =>
  vLen .string t0 fun v7 =>
  vBin (.int .i64) .neq v7 (.int .i64 4) fun v8 =>
  vBool v8 fun c => if c = true then
   (vBuild Tryd.prog 48 [] fun v9 =>
   vSt (some 5) v2 v9 w fun w_2 =>
   vLd (.agg 5) v2 w_2 fun r => K (.tuple #[r, (.bool false)]) w_2)
  else
  drawF w fun S =>
  vIx .string .bad t0 (.int .i64 0) fun v11 =>
  vConv (.int .i64) v11 fun v12 =>
  vIx .string .bad t0 (.int .i64 1) fun v14 =>
  vConv (.int .i64) v14 fun v15 =>
  vBuild Tryd.prog 48 [(0, v12), (1, v15)] fun v16 =>
  (vAlloc Tryd.prog 48 w.drew fun v4 w_3 =>
  S w_3 ∧ ((vSt (some 5) v4 v16 w_3 fun w_4 =>
  (drawF w_4 fun S_2 =>
  vIx .string .bad t0 (.int .i64 2) fun v18 =>
  vConv (.int .i64) v18 fun v19 =>
  vIx .string .bad t0 (.int .i64 3) fun v21 =>
  vConv (.int .i64) v21 fun v22 =>
  vBin (.int .i64) .mul (.int .i64 256) v22 fun v23 =>
  vBin (.int .i64) .add v19 v23 fun v24 =>
  vFA (some 0) v4 fun v25 =>
  vLd .one v25 w_4.drew fun v26 =>
  CallK Tryd.prog 35 #[v26] w_4.drew fun v27 w_5 =>
  vBin (.int .i64) .eql v27 (.int .i64 1) fun v37 =>
  vBool v37 fun c_2 => if c_2 = true then
   (vFA (some 4) v4 fun v39 =>
   vSt (some 1) v39 v24 w_5 fun w_6 =>
   drawF2 w_6 fun S_3 T =>
  vLdS S_3 (.agg 5) v4 fun v60 =>
  vLdS (fun w => S_3 w ∨ T w) (.agg 5) v4 fun v61 =>
  (CallK Tryd.prog 19 #[v61] w_6.drew fun v62 w_7 =>
  S_3 w_7 ∧ ((vSt (some 5) v2 v60 w_7 fun w_8 =>
  T w_8 ∧ (vLd (.agg 5) v2 w_8 fun r_2 => K (.tuple #[r_2, v62]) w_8)) ∧
  (True))) ∧
  (True))
  else
  joinF [0, 2, 4, 5, 27, 40] (fun J2 =>
  vBin (.int .i64) .eql v27 (.int .i64 5) fun v41 =>
  vBool v41 fun c_3 => if c_3 = true then
   (J2 [t0, v2, v4, v24, v27, v41] [] w_5)
  else
  vBin (.int .i64) .eql v27 (.int .i64 6) fun v42 =>
  J2 [t0, v2, v4, v24, v27, v42] [] w_5)
  (F50J2 K))) ∧
  (True))) ∧
  (True)

def tab50 : Tab := { sel := [], plan := [(3, (.take 0 (.take 1 (.take 2 (.take 3 (.take 4 (.take 5 (.take 6 (.alt 7 (.alt 8 .done .stop) .stop))))))))), (4, (.take 0 (.take 1 (.take 2 (.take 3 (.take 4 (.take 5 (.take 6 (.take 7 (.take 8 .done)))))))))), (18, (.take 0 (.take 1 (.alt 2 (.alt 3 (.take 4 .done) .stop) .stop))))], join := [(12, [0, 2, 4, 5, 27, 40])] }

theorem F50_eq (t0 : Value) (w : World) (K : Value → World → Prop) : enterV Tryd.prog tab50 Tryd.f50 [t0] w K = F50 t0 w K := by kernel_rfl

theorem F50_ok {t0 : Value} {w : World} {K : Value → World → Prop} (h : F50 t0 w K) : Ret Tryd.prog 50 #[t0] w K :=
  enter_sound (T := tab50) (args := [t0]) Tryd.func50 Tryd.call50 mixed (by kernel_rfl) (by rw [F50_eq]; exact h)

/-- gatehouse/gatehouseref06.Wants -/
def F51 (t0 : Value) (t1 : Value) (w : World) (K : Value → World → Prop) : Prop :=
  vBox 25 t0 w fun v2 w =>
  vBox 48 t1 w fun v3 w_2 =>
  vAlloc Tryd.prog 114 w_2 fun v4 w_3 =>
  drawF w_3 fun S =>
  vFA (some 2) v3 fun v6 =>
  vLdS S .one v6 fun v7 =>
  vFA (some 0) v2 fun v8 =>
  vIA (.arr 16 1) v8 v7 fun v9 =>
  vLdS S .one v9 fun v10 =>
  vFA (some 4) v3 fun v11 =>
  vLdS S .one v11 fun v12 =>
  vConv (.int .u64) v12 fun v13 =>
  vBin (.int .u64) .add v10 v13 fun v14 =>
  vFA (some 0) v3 fun v15 =>
  vLd .one v15 w_3.drew fun v16 =>
  vBin (.int .i64) .eql v16 (.int .i64 18) fun v18 =>
  vBool v18 fun c => if c = true then
   (vBuild Tryd.prog 114 [(0, (.bool false)), (1, v14), (2, (.int .i64 1)), (3, (.string ⟨#[]⟩))] fun v20 =>
   vSt (some 4) v4 v20 w_3.drew fun w_4 =>
   vLd (.agg 4) v4 w_4 fun r => K r w_4)
  else
  vBin (.int .i64) .eql v16 (.int .i64 19) fun v22 =>
  vBool v22 fun c_2 => if c_2 = true then
   (vFA (some 1) v3 fun v24 =>
   vLd .one v24 w_3.drew fun v25 =>
   vFA (some 0) v2 fun v26 =>
   vIA (.arr 16 1) v26 v25 fun v27 =>
   vLd .one v27 w_3.drew fun v28 =>
   vBin (.int .u64) .rem v28 (.int .u64 256) fun v29 =>
   vConv (.int .u8) v29 fun v30 =>
   vBuildSlice Tryd.prog 42 1 [(0, v30)] w_3.drew fun v31 w_5 =>
   vB2S v31 w_5 fun v32 =>
   vBuild Tryd.prog 114 [(0, (.bool true)), (1, v14), (2, (.int .i64 1)), (3, v32)] fun v33 =>
   vSt (some 4) v4 v33 w_5 fun w_6 =>
   vLd (.agg 4) v4 w_6 fun r_2 => K r_2 w_6)
  else
  vBin (.int .i64) .eql v16 (.int .i64 20) fun v35 =>
  vBool v35 fun c_3 => if c_3 = true then
   (vBuild Tryd.prog 114 [(0, (.bool false)), (1, v14), (2, (.int .i64 8)), (3, (.string ⟨#[]⟩))] fun v37 =>
   vSt (some 4) v4 v37 w_3.drew fun w_7 =>
   vLd (.agg 4) v4 w_7 fun r_3 => K r_3 w_7)
  else
  vBin (.int .i64) .eql v16 (.int .i64 21) fun v39 =>
  vBool v39 fun c_4 => if c_4 = true then
   (vFA (some 1) v3 fun v41 =>
   vLd .one v41 w_3.drew fun v42 =>
   vFA (some 0) v2 fun v43 =>
   vIA (.arr 16 1) v43 v42 fun v44 =>
   vLd .one v44 w_3.drew fun v45 =>
   CallK Tryd.prog 57 #[v45] w_3.drew fun v46 w_8 =>
   vBuild Tryd.prog 114 [(0, (.bool true)), (1, v14), (2, (.int .i64 8)), (3, v46)] fun v47 =>
   vSt (some 4) v4 v47 w_8 fun w_9 =>
   vLd (.agg 4) v4 w_9 fun r_4 => K r_4 w_9)
  else
  vBuild Tryd.prog 114 [] fun v48 =>
  vSt (some 4) v4 v48 w_3.drew fun w_10 =>
  vLd (.agg 4) v4 w_10 fun r_5 => K r_5 w_10

def tab51 : Tab := { sel := [], plan := [(1, (.take 0 (.take 1 (.take 2 (.take 3 (.take 4 (.take 5 (.take 6 (.take 7 (.take 8 (.take 9 .done)))))))))))], join := [] }

theorem F51_eq (t0 : Value) (t1 : Value) (w : World) (K : Value → World → Prop) : enterV Tryd.prog tab51 Tryd.f51 [t0, t1] w K = F51 t0 t1 w K := by kernel_rfl

theorem F51_ok {t0 : Value} {t1 : Value} {w : World} {K : Value → World → Prop} (h : F51 t0 t1 w K) : Ret Tryd.prog 51 #[t0, t1] w K :=
  enter_sound (T := tab51) (args := [t0, t1]) Tryd.func51 Tryd.call51 mixed (by kernel_rfl) (by rw [F51_eq]; exact h)

def F52J4 (K : Value → World → Prop) (ρ : Env) (ds : List Nat) (w : World) : Prop :=
  vBool (ρ 140) fun c_14 => if c_14 = true then
   (drawF w fun S_4 =>
   vLdS S_4 (.agg 17) (ρ 10) fun v141 =>
   vFA (some 1) (ρ 4) fun v142 =>
   vLdS S_4 .one v142 fun v143 =>
   vFA (some 0) (ρ 4) fun v144 =>
   vLdS S_4 .one v144 fun v145 =>
   vFA (some 2) (ρ 4) fun v146 =>
   vLdS S_4 .one v146 fun v147 =>
   vFA (some 0) (ρ 3) fun v148 =>
   vIA (.arr 16 1) v148 v147 fun v149 =>
   vLdS S_4 .one v149 fun v150 =>
   vFA (some 3) (ρ 4) fun v151 =>
   vLdS S_4 .one v151 fun v152 =>
   vFA (some 0) (ρ 3) fun v153 =>
   vIA (.arr 16 1) v153 v152 fun v154 =>
   vLdS S_4 .one v154 fun v155 =>
   (CallK Tryd.prog 21 #[v145, v150, v155] w.drew fun v156 w_31 =>
   S_4 w_31 ∧ ((CallK Tryd.prog 58 #[v141, v143, v156] w_31 fun v157 w_32 =>
   S_4 w_32 ∧ ((vSt (some 17) (ρ 6) v157 w_32 fun w_33 =>
   (leaveV ds w_33 fun W => vLd (.agg 17) (ρ 6) W fun r_14 => K (.tuple #[r_14, (.int .i64 0)]) W)) ∧
   (True))) ∧
   (True))) ∧
   (True))
  else
  vLd (.agg 17) (ρ 10) w fun v158 =>
  vSt (some 17) (ρ 6) v158 w fun w_34 =>
  leaveV ds w_34 fun W => vLd (.agg 17) (ρ 6) W fun r_15 => K (.tuple #[r_15, (.int .i64 0)]) W

def F52J5 (K : Value → World → Prop) (ρ : Env) (ds : List Nat) (w : World) : Prop :=
  vBool (ρ 77) fun c_6 => if c_6 = true then
   (drawF w fun S_3 =>
   vLdS S_3 (.agg 17) (ρ 10) fun v80 =>
   vFA (some 1) (ρ 4) fun v81 =>
   vLdS S_3 .one v81 fun v82 =>
   (CallK Tryd.prog 59 #[(ρ 2)] w.drew fun v84 w_15 =>
   S_3 w_15 ∧ ((CallK Tryd.prog 58 #[v80, v82, v84] w_15 fun v85 w_16 =>
   S_3 w_16 ∧ ((vSt (some 17) (ρ 6) v85 w_16 fun w_17 =>
   (leaveV ds w_17 fun W => vLd (.agg 17) (ρ 6) W fun r_6 => K (.tuple #[r_6, (.int .i64 0)]) W)) ∧
   (True))) ∧
   (True))) ∧
   (True))
  else
  vBin (.int .i64) .eql (ρ 34) (.int .i64 22) fun v87 =>
  vBool v87 fun c_7 => if c_7 = true then
   (vFA (some 16) (ρ 10) fun v89 =>
   vSt (some 1) v89 (ρ 9) w fun w_18 =>
   vLd (.agg 17) (ρ 10) w_18 fun v90 =>
   vSt (some 17) (ρ 6) v90 w_18 fun w_19 =>
   leaveV ds w_19 fun W => vLd (.agg 17) (ρ 6) W fun r_7 => K (.tuple #[r_7, (.int .i64 0)]) W)
  else
  vBin (.int .i64) .eql (ρ 34) (.int .i64 23) fun v92 =>
  vBool v92 fun c_8 => if c_8 = true then
   (vFA (some 1) (ρ 4) fun v93 =>
   vLd .one v93 w fun v94 =>
   vFA (some 0) (ρ 3) fun v95 =>
   vIA (.arr 16 1) v95 v94 fun v96 =>
   vLd .one v96 w fun v97 =>
   vBin (.int .u64) .eql v97 (.int .u64 0) fun v98 =>
   vBool v98 fun c_9 => if c_9 = true then
    (vFA (some 16) (ρ 10) fun v100 =>
    vSt (some 1) v100 (ρ 9) w fun w_20 =>
    vLd (.agg 17) (ρ 10) w_20 fun v101 =>
   vSt (some 17) (ρ 6) v101 w_20 fun w_21 =>
   leaveV ds w_21 fun W => vLd (.agg 17) (ρ 6) W fun r_8 => K (.tuple #[r_8, (.int .i64 0)]) W)
   else
   vLd (.agg 17) (ρ 10) w fun v101_2 =>
   vSt (some 17) (ρ 6) v101_2 w fun w_22 =>
   leaveV ds w_22 fun W => vLd (.agg 17) (ρ 6) W fun r_9 => K (.tuple #[r_9, (.int .i64 0)]) W)
  else
  vBin (.int .i64) .eql (ρ 34) (.int .i64 24) fun v103 =>
  vBool v103 fun c_10 => if c_10 = true then
   (vFA (some 1) (ρ 4) fun v104 =>
   vLd .one v104 w fun v105 =>
   vFA (some 0) (ρ 3) fun v106 =>
   vIA (.arr 16 1) v106 v105 fun v107 =>
   vLd .one v107 w fun v108 =>
   vBin (.int .u64) .neq v108 (.int .u64 0) fun v109 =>
   vBool v109 fun c_11 => if c_11 = true then
    (vFA (some 16) (ρ 10) fun v111 =>
    vSt (some 1) v111 (ρ 9) w fun w_23 =>
    vLd (.agg 17) (ρ 10) w_23 fun v112 =>
   vSt (some 17) (ρ 6) v112 w_23 fun w_24 =>
   leaveV ds w_24 fun W => vLd (.agg 17) (ρ 6) W fun r_10 => K (.tuple #[r_10, (.int .i64 0)]) W)
   else
   vLd (.agg 17) (ρ 10) w fun v112_2 =>
   vSt (some 17) (ρ 6) v112_2 w fun w_25 =>
   leaveV ds w_25 fun W => vLd (.agg 17) (ρ 6) W fun r_11 => K (.tuple #[r_11, (.int .i64 0)]) W)
  else
  vBin (.int .i64) .eql (ρ 34) (.int .i64 25) fun v114 =>
  vBool v114 fun c_12 => if c_12 = true then
   (vFA (some 2) (ρ 4) fun v115 =>
   vLd .one v115 w fun v116 =>
   vFA (some 0) (ρ 3) fun v117 =>
   vIA (.arr 16 1) v117 v116 fun v118 =>
   vLd .one v118 w fun v119 =>
   vFA (some 16) (ρ 10) fun v120 =>
   vSt (some 1) v120 v119 w fun w_26 =>
   vLd (.agg 17) (ρ 10) w_26 fun v121 =>
   vFA (some 1) (ρ 4) fun v122 =>
   vLd .one v122 w_26 fun v123 =>
   CallK Tryd.prog 58 #[v121, v123, (ρ 8)] w_26 fun v125 w_27 =>
   vSt (some 17) (ρ 6) v125 w_27 fun w_28 =>
   leaveV ds w_28 fun W => vLd (.agg 17) (ρ 6) W fun r_12 => K (.tuple #[r_12, (.int .i64 0)]) W)
  else
  vBin (.int .i64) .eql (ρ 34) (.int .i64 26) fun v127 =>
  vBool v127 fun c_13 => if c_13 = true then
   (vFA (some 0) (ρ 3) fun v128 =>
   vIA (.arr 16 1) v128 (.int .i64 15) fun v129 =>
   vLd .one v129 w fun v130 =>
   vFA (some 16) (ρ 10) fun v131 =>
   vSt (some 1) v131 v130 w fun w_29 =>
   vLd (.agg 17) (ρ 10) w_29 fun v132 =>
   vSt (some 17) (ρ 6) v132 w_29 fun w_30 =>
   leaveV ds w_30 fun W => vLd (.agg 17) (ρ 6) W fun r_13 => K (.tuple #[r_13, (.int .i64 0)]) W)
  else
  joinF [3, 4, 6, 10, 140] (fun J4 =>
  vFA (some 0) (ρ 4) fun v133 =>
  vLd .one v133 w fun v134 =>
  vBin (.int .i64) .geq v134 (.int .i64 6) fun v135 =>
  vBool v135 fun g => if g = true then
  (vFA (some 0) (ρ 4) fun v137 =>
  vLd .one v137 w fun v138 =>
  vBin (.int .i64) .leq v138 (.int .i64 17) fun v139 =>
  J4 [(ρ 3), (ρ 4), (ρ 6), (ρ 10), v139] ds w)
  else
  (J4 [(ρ 3), (ρ 4), (ρ 6), (ρ 10), (.bool false)] ds w))
  (F52J4 K)

def F52J1 (K : Value → World → Prop) (ρ : Env) (ds : List Nat) (w : World) : Prop :=
  vLd (.agg 17) (ρ 3) w fun v30 =>
  vAlloc Tryd.prog 25 w fun v10 w_4 =>
  vSt (some 17) v10 v30 w_4 fun w_5 =>
  vFA (some 16) v10 fun v32 =>
  vSt (some 1) v32 (ρ 8) w_5 fun w_6 =>
  vFA (some 0) (ρ 4) fun v33 =>
  vLd .one v33 w_6 fun v34 =>
  vBin (.int .i64) .eql v34 (.int .i64 0) fun v36 =>
  vBool v36 fun c => if c = true then
   (vLd (.agg 17) (ρ 3) w_6 fun v37 =>
   vSt (some 17) (ρ 6) v37 w_6 fun w_7 =>
   leaveV ds w_7 fun W => vLd (.agg 17) (ρ 6) W fun r => K (.tuple #[r, (.int .i64 2)]) W)
  else
  vBin (.int .i64) .eql v34 (.int .i64 2) fun v39 =>
  vBool v39 fun c_2 => if c_2 = true then
   (vLd (.agg 17) v10 w_6 fun v40 =>
   vSt (some 17) (ρ 6) v40 w_6 fun w_8 =>
   leaveV ds w_8 fun W => vLd (.agg 17) (ρ 6) W fun r_2 => K (.tuple #[r_2, (.int .i64 1)]) W)
  else
  vBin (.int .i64) .eql v34 (.int .i64 3) fun v42 =>
  vBool v42 fun c_3 => if c_3 = true then
   (vLd (.agg 17) v10 w_6 fun v43 =>
   vFA (some 1) (ρ 4) fun v44 =>
   vLd .one v44 w_6 fun v45 =>
   vFA (some 4) (ρ 4) fun v46 =>
   vLd .one v46 w_6 fun v47 =>
   vConv (.int .u64) v47 fun v48 =>
   CallK Tryd.prog 58 #[v43, v45, v48] w_6 fun v49 w_9 =>
   vSt (some 17) (ρ 6) v49 w_9 fun w_10 =>
   leaveV ds w_10 fun W => vLd (.agg 17) (ρ 6) W fun r_3 => K (.tuple #[r_3, (.int .i64 0)]) W)
  else
  vBin (.int .i64) .eql v34 (.int .i64 4) fun v51 =>
  vBool v51 fun c_4 => if c_4 = true then
   (drawF w_6 fun S =>
   vLdS S (.agg 17) v10 fun v52 =>
   vFA (some 1) (ρ 4) fun v53 =>
   vLdS S .one v53 fun v54 =>
   vFA (some 1) (ρ 4) fun v55 =>
   vLdS S .one v55 fun v56 =>
   vFA (some 0) (ρ 3) fun v57 =>
   vIA (.arr 16 1) v57 v56 fun v58 =>
   vLdS S .one v58 fun v59 =>
   vBin (.int .u64) .mul v59 (.int .u64 65536) fun v60 =>
   vFA (some 4) (ρ 4) fun v61 =>
   vLdS S .one v61 fun v62 =>
   vConv (.int .u64) v62 fun v63 =>
   vBin (.int .u64) .add v60 v63 fun v64 =>
   (CallK Tryd.prog 58 #[v52, v54, v64] w_6.drew fun v65 w_11 =>
   S w_11 ∧ ((vSt (some 17) (ρ 6) v65 w_11 fun w_12 =>
   (leaveV ds w_12 fun W => vLd (.agg 17) (ρ 6) W fun r_4 => K (.tuple #[r_4, (.int .i64 0)]) W)) ∧
   (True))) ∧
   (True))
  else
  vBin (.int .i64) .eql v34 (.int .i64 5) fun v67 =>
  vBool v67 fun c_5 => if c_5 = true then
   (drawF w_6 fun S_2 =>
   vLdS S_2 (.agg 17) v10 fun v68 =>
   vFA (some 1) (ρ 4) fun v69 =>
   vLdS S_2 .one v69 fun v70 =>
   vFA (some 2) (ρ 4) fun v71 =>
   vLdS S_2 .one v71 fun v72 =>
   vFA (some 0) (ρ 3) fun v73 =>
   vIA (.arr 16 1) v73 v72 fun v74 =>
   vLdS S_2 .one v74 fun v75 =>
   (CallK Tryd.prog 58 #[v68, v70, v75] w_6.drew fun v76 w_13 =>
   S_2 w_13 ∧ ((vSt (some 17) (ρ 6) v76 w_13 fun w_14 =>
   (leaveV ds w_14 fun W => vLd (.agg 17) (ρ 6) W fun r_5 => K (.tuple #[r_5, (.int .i64 0)]) W)) ∧
   (True))) ∧
   (True))
  else
  joinF [2, 3, 4, 6, 8, 9, 10, 34, 77] (fun J5 =>
  vBin (.int .i64) .eql v34 (.int .i64 18) fun v78 =>
  vBool v78 fun c_6 => if c_6 = true then
   (J5 [(ρ 2), (ρ 3), (ρ 4), (ρ 6), (ρ 8), (ρ 9), v10, v34, v78] ds w_6)
  else
  vBin (.int .i64) .eql v34 (.int .i64 20) fun v79 =>
  J5 [(ρ 2), (ρ 3), (ρ 4), (ρ 6), (ρ 8), (ρ 9), v10, v34, v79] ds w_6)
  (F52J5 K)

/-- gatehouse/gatehouseref06.Does -/
def F52 (t0 : Value) (t1 : Value) (t2 : Value) (w : World) (K : Value → World → Prop) : Prop :=
  vBox 25 t0 w fun v3 w =>
  vBox 48 t1 w fun v4 w_2 =>
  vAlloc Tryd.prog 25 w_2 fun v6 w_3 =>
  vFA (some 16) v3 fun v11 =>
  vLd .one v11 w_3 fun v12 =>
  vBin (.int .u64) .add v12 (.int .u64 4) fun v13 =>
  joinF [2, 3, 4, 6, 8, 9] (fun J1 =>
  vFA (some 4) v4 fun v15 =>
  vLd .one v15 w_3 fun v16 =>
  vBin (.int .i64) .lss v16 (.int .i64 0) fun v17 =>
  vBool v17 fun c => if c = true then
   (vFA (some 4) v4 fun v19 =>
   vLd .one v19 w_3 fun v20 =>
   vBin (.int .i64) .mul (.int .i64 (-4)) v20 fun v21 =>
   vConv (.int .u64) v21 fun v22 =>
   vBin (.int .u64) .sub v13 v22 fun v23 =>
   J1 [t2, v3, v4, v6, v13, v23] [] w_3)
  else
  vFA (some 4) v4 fun v25 =>
  vLd .one v25 w_3 fun v26 =>
  vBin (.int .i64) .mul (.int .i64 4) v26 fun v27 =>
  vConv (.int .u64) v27 fun v28 =>
  vBin (.int .u64) .add v13 v28 fun v29 =>
  J1 [t2, v3, v4, v6, v13, v29] [] w_3)
  (F52J1 K)

def tab52 : Tab := { sel := [], plan := [(16, (.take 0 (.take 1 (.take 2 (.take 3 (.take 4 (.take 5 (.take 6 (.take 7 (.take 8 (.take 9 (.take 10 (.take 11 (.take 12 (.alt 13 (.alt 14 (.take 15 .done) .stop) .stop))))))))))))))), (18, (.take 0 (.take 1 (.take 2 (.take 3 (.take 4 (.take 5 (.take 6 (.take 7 (.alt 8 (.alt 9 (.take 10 .done) .stop) .stop)))))))))), (21, (.take 0 (.take 1 (.take 2 (.take 3 (.alt 4 (.alt 5 (.alt 6 (.take 7 .done) .stop) .stop) .stop)))))), (40, (.take 0 (.take 1 (.take 2 (.take 3 (.take 4 (.take 5 (.take 6 (.take 7 (.take 8 (.take 9 (.take 10 (.take 11 (.take 12 (.take 13 (.take 14 (.alt 15 (.alt 16 (.alt 17 (.take 18 .done) .stop) .stop) .stop)))))))))))))))))], join := [(40, [3, 4, 6, 10, 140]), (21, [2, 3, 4, 6, 8, 9, 10, 34, 77]), (6, [2, 3, 4, 6, 8, 9])] }

theorem F52_eq (t0 : Value) (t1 : Value) (t2 : Value) (w : World) (K : Value → World → Prop) : enterV Tryd.prog tab52 Tryd.f52 [t0, t1, t2] w K = F52 t0 t1 t2 w K := by kernel_rfl

theorem F52_ok {t0 : Value} {t1 : Value} {t2 : Value} {w : World} {K : Value → World → Prop} (h : F52 t0 t1 t2 w K) : Ret Tryd.prog 52 #[t0, t1, t2] w K :=
  enter_sound (T := tab52) (args := [t0, t1, t2]) Tryd.func52 Tryd.call52 mixed (by kernel_rfl) (by rw [F52_eq]; exact h)

/-- (*strings.Builder).grow -/
def F53 (t0 : Value) (t1 : Value) (w : World) (K : Value → World → Prop) : Prop :=
  drawF w fun S =>
  vNilP Tryd.prog t0 fun v6 =>
  vFA (some 1) v6 fun v7 =>
  vLdS S .one v7 fun v8 =>
  vCap (.slice 1) v8 fun v9 =>
  vBin (.int .i64) .mul (.int .i64 2) v9 fun v10 =>
  vBin (.int .i64) .add v10 t1 fun v12 =>
  vNilP Tryd.prog t0 fun v15 =>
  vFA (some 1) v15 fun v16 =>
  vLdS S .one v16 fun v17 =>
  vLen (.slice 1) v17 fun v18 =>
  (CallK Tryd.prog 60 #[v12] w.drew fun v13 w =>
  S w ∧ (vSlice (.slice 1) v13 none (some v18) fun v19 =>
  vNilP Tryd.prog t0 fun v22 =>
  vFA (some 1) v22 fun v23 =>
  vLd .one v23 w fun v24 =>
  vCopy Tryd.prog 42 v19 v24 w fun v25 w_2 =>
  vNilP Tryd.prog t0 fun v28 =>
  vFA (some 1) v28 fun v29 =>
  vSt (some 1) v29 v19 w_2 fun w_3 =>
  K (.tuple #[]) w_3)) ∧
  (True)

def tab53 : Tab := { sel := [], plan := [(0, (.take 0 (.take 1 (.take 2 (.take 3 (.take 4 (.take 5 (.take 6 (.take 7 (.take 9 (.take 10 (.take 11 (.take 12 (.take 13 (.alt 8 (.take 14 (.take 15 .done)) .stop)))))))))))))))], join := [] }

theorem F53_eq (t0 : Value) (t1 : Value) (w : World) (K : Value → World → Prop) : enterV Tryd.prog tab53 Tryd.f53 [t0, t1] w K = F53 t0 t1 w K := by kernel_rfl

theorem F53_ok {t0 : Value} {t1 : Value} {w : World} {K : Value → World → Prop} (h : F53 t0 t1 w K) : Ret Tryd.prog 53 #[t0, t1] w K :=
  enter_sound (T := tab53) (args := [t0, t1]) Tryd.func53 Tryd.call53 mixed (by kernel_rfl) (by rw [F53_eq]; exact h)

def F54L4 (J1 : List Value → List Nat → World → Prop) (ρ : Env) (ds : List Nat) (w : World) (ag4 : List Value → List Nat → World → Prop) : Prop :=
  vLen .string (ρ 0) fun v44 =>
  vBin (.int .i64) .lss (ρ 12) v44 fun v45 =>
  vBool v45 fun g => if g = true then
  (vIx .string .bad (ρ 0) (ρ 12) fun v49 =>
  vIA (.arr 256 1) (.pointer (some ⟨0, 0, none⟩)) v49 fun v50 =>
  vLd .one v50 w fun v51 =>
  vBin (.int .u8) .neq v51 (.int .u8 0) fun v52 =>
  vBool v52 fun c_3 => if c_3 = true then
   (vBin (.int .i64) .add (ρ 12) (.int .i64 1) fun v55 =>
  ag4 [(ρ 0), (ρ 9), (ρ 10), v55] ds w)
  else
  J1 [(ρ 0), (ρ 9), (ρ 10), (ρ 12)] ds w)
  else
  (J1 [(ρ 0), (ρ 9), (ρ 10), (ρ 12)] ds w)

def F54L3 (ag2 : List Value → List Nat → World → Prop) (ρ : Env) (ds : List Nat) (w : World) (ag3 : List Value → List Nat → World → Prop) : Prop :=
  vLen .string (ρ 0) fun v82 =>
  vBin (.int .i64) .lss (ρ 12) v82 fun v83 =>
  vBool v83 fun g => if g = true then
  (vIx .string .bad (ρ 0) (ρ 12) fun v87 =>
  vIA (.arr 256 1) (.pointer (some ⟨0, 0, none⟩)) v87 fun v88 =>
  vLd .one v88 w fun v89 =>
  vBin (.int .u8) .neq v89 (.int .u8 0) fun v90 =>
  vBool v90 fun c_5 => if c_5 = true then
   (vBin (.int .i64) .add (ρ 12) (.int .i64 1) fun v93 =>
  ag3 [(ρ 0), (ρ 9), (ρ 10), v93] ds w)
  else
  ag2 [(ρ 0), (ρ 9), (ρ 10), (ρ 12), (ρ 12)] ds w)
  else
  (ag2 [(ρ 0), (ρ 9), (ρ 10), (ρ 12), (ρ 12)] ds w)

def F54L2 (K : Value → World → Prop) (ρ : Env) (ds : List Nat) (w : World) (ag2 : List Value → List Nat → World → Prop) : Prop :=
  vLen .string (ρ 0) fun v59 =>
  vBin (.int .i64) .lss (ρ 12) v59 fun v60 =>
  vBool v60 fun c_3 => if c_3 = true then
   (vIx .string .bad (ρ 0) (ρ 12) fun v63 =>
  vIA (.arr 256 1) (.pointer (some ⟨0, 0, none⟩)) v63 fun v64 =>
  vLd .one v64 w fun v65 =>
  vBin (.int .u8) .eql v65 (.int .u8 0) fun v66 =>
  vBool v66 fun c_4 => if c_4 = true then
   (vBin (.int .i64) .add (ρ 12) (.int .i64 1) fun v68 =>
   ag2 [(ρ 0), (ρ 9), (ρ 10), (ρ 11), v68] ds w)
  else
  vSlice .string (ρ 0) (some (ρ 11)) (some (ρ 12)) fun v74 =>
  vIA (.slice 1) (ρ 9) (ρ 10) fun v75 =>
  vSt (some 1) v75 v74 w fun w_3 =>
  vBin (.int .i64) .add (ρ 10) (.int .i64 1) fun v77 =>
  vBin (.int .i64) .add (ρ 12) (.int .i64 1) fun v79 =>
  loopF [0, 9, 10, 12] [(ρ 0), (ρ 9), v77, v79] ds w_3 (F54L3 ag2))
  else
  vLen .string (ρ 0) fun v97 =>
  vBin (.int .i64) .lss (ρ 11) v97 fun v98 =>
  vBool v98 fun c_6 => if c_6 = true then
   (vSlice .string (ρ 0) (some (ρ 11)) none fun v103 =>
   vIA (.slice 1) (ρ 9) (ρ 10) fun v104 =>
   vSt (some 1) v104 v103 w fun w_4 =>
   leaveV ds w_4 fun W => K (ρ 9) W)
  else
  leaveV ds w fun W => K (ρ 9) W

def F54J1 (K : Value → World → Prop) (ρ : Env) (ds : List Nat) (w : World) : Prop :=
  loopF [0, 9, 10, 11, 12] [(ρ 0), (ρ 9), (ρ 10), (ρ 12), (ρ 12)] ds w (F54L2 K)

def F54L1 (K : Value → World → Prop) (ρ : Env) (ds : List Nat) (w : World) (ag1 : List Value → List Nat → World → Prop) : Prop :=
  vLen .string (ρ 0) fun v15 =>
  vBin (.int .i64) .lss (ρ 6) v15 fun v16 =>
  vBool v16 fun c => if c = true then
   (vIx .string .bad (ρ 0) (ρ 6) fun v21 =>
  vBin (.int .u8) .or (ρ 5) v21 fun v24 =>
  vIA (.arr 256 1) (.pointer (some ⟨0, 0, none⟩)) v21 fun v26 =>
  vLd .one v26 w fun v27 =>
  vConv (.int .i64) v27 fun v28 =>
  vUn .xor v28 fun v32 =>
  vBin (.int .i64) .and (ρ 4) v32 fun v33 =>
  vBin (.int .i64) .add (ρ 3) v33 fun v34 =>
  vBin (.int .i64) .add (ρ 6) (.int .i64 1) fun v18 =>
  ag1 [(ρ 0), v34, v28, v24, v18] ds w)
  else
  vBin (.int .u8) .geq (ρ 5) (.int .u8 128) fun v37 =>
  vBool v37 fun c_2 => if c_2 = true then
   (CallK Tryd.prog 61 #[(ρ 0), (.func (.func 62) #[] #[])] w fun v39 w =>
   leaveV ds w fun W => K v39 W)
  else
  vMakeSlice Tryd.prog 63 (ρ 3) (ρ 3) w fun v41 w_2 =>
  joinF [0, 9, 10, 12] (fun J1 =>
  loopF [0, 9, 10, 12] [(ρ 0), v41, (.int .i64 0), (.int .i64 0)] ds w_2 (F54L4 J1))
  (F54J1 K)

/-- strings.Fields -/
def F54 (t0 : Value) (w : World) (K : Value → World → Prop) : Prop :=
  loopF [0, 3, 4, 5, 6] [t0, (.int .i64 0), (.int .i64 1), (.int .u8 0), (.int .i64 0)] [] w (F54L1 K)

def tab54 : Tab := { sel := [(27, [0, 9, 10, 12]), (21, [0, 9, 10, 11, 12]), (18, [0, 9, 10, 12]), (5, [0, 3, 4, 5, 6])], plan := [], join := [(20, [0, 9, 10, 12])] }

theorem F54_eq (t0 : Value) (w : World) (K : Value → World → Prop) : enterV Tryd.prog tab54 Tryd.f54 [t0] w K = F54 t0 w K := by kernel_rfl

theorem F54_ok {t0 : Value} {w : World} {K : Value → World → Prop} (h : F54 t0 w K) : Ret Tryd.prog 54 #[t0] w K :=
  enter_sound (T := tab54) (args := [t0]) Tryd.func54 Tryd.call54 mixed (by kernel_rfl) (by rw [F54_eq]; exact h)

def F55L1 (K : Value → World → Prop) (ρ : Env) (ds : List Nat) (w : World) (ag1 : List Value → List Nat → World → Prop) : Prop :=
  vBin (.int .i64) .lss (ρ 27) (.int .i64 3) fun v28 =>
  vBool v28 fun c_2 => if c_2 = true then
   (vIx (.arr 3 1) .one (ρ 26) (ρ 27) fun v30 =>
  vFA (some 1) (ρ 3) fun v32 =>
  vLd .one v32 w fun v33 =>
  vBin (.int .i64) .lss (ρ 27) v33 fun v34 =>
  vBool v34 fun g => if g = true then
  (vBin (.int .i64) .lss v30 (.int .i64 0) fun v37 =>
  vBool v37 fun g_2 => if g_2 = true then
  (leaveV ds w fun W => K (.bool false) W)
  else
  (vBin (.int .i64) .geq v30 (.int .i64 16) fun v40 =>
  vBool v40 fun g_3 => if g_3 = true then
  (leaveV ds w fun W => K (.bool false) W)
  else
  (vFA (some 1) (ρ 3) fun v45 =>
  vLd .one v45 w fun v46 =>
  vBin (.int .i64) .geq (ρ 27) v46 fun v47 =>
  vBool v47 fun g_4 => if g_4 = true then
  (vBin (.int .i64) .neq v30 (.int .i64 0) fun v50 =>
  vBool v50 fun c_3 => if c_3 = true then
   (leaveV ds w fun W => K (.bool false) W)
  else
  vBin (.int .i64) .add (ρ 27) (.int .i64 1) fun v53 =>
  ag1 [(ρ 3), (ρ 26), v53] ds w)
  else
  (vBin (.int .i64) .add (ρ 27) (.int .i64 1) fun v53_2 =>
  ag1 [(ρ 3), (ρ 26), v53_2] ds w))))
  else
  (vFA (some 1) (ρ 3) fun v45_2 =>
  vLd .one v45_2 w fun v46_2 =>
  vBin (.int .i64) .geq (ρ 27) v46_2 fun v47_2 =>
  vBool v47_2 fun g_5 => if g_5 = true then
  (vBin (.int .i64) .neq v30 (.int .i64 0) fun v50_2 =>
  vBool v50_2 fun c_4 => if c_4 = true then
   (leaveV ds w fun W => K (.bool false) W)
  else
  vBin (.int .i64) .add (ρ 27) (.int .i64 1) fun v53_3 =>
  ag1 [(ρ 3), (ρ 26), v53_3] ds w)
  else
  (vBin (.int .i64) .add (ρ 27) (.int .i64 1) fun v53_4 =>
  ag1 [(ρ 3), (ρ 26), v53_4] ds w)))
  else
  leaveV ds w fun W => K (.bool true) W

def F55J1 (K : Value → World → Prop) (ρ : Env) (ds : List Nat) (w : World) : Prop :=
  vBool (ρ 19) fun c => if c = true then
   (leaveV ds w fun W => K (.bool false) W)
  else
  vFA (some 1) (ρ 1) fun v20 =>
  vLd .one v20 w fun v21 =>
  vFA (some 2) (ρ 1) fun v22 =>
  vLd .one v22 w fun v23 =>
  vFA (some 3) (ρ 1) fun v24 =>
  vLd .one v24 w fun v25 =>
  vBuild Tryd.prog 129 [(0, v21), (1, v23), (2, v25)] fun v26 =>
  loopF [3, 26, 27] [(ρ 3), v26, (.int .i64 0)] ds w (F55L1 K)

/-- gatehouse/isa.Right -/
def F55 (t0 : Value) (w : World) (K : Value → World → Prop) : Prop :=
  vBox 48 t0 w fun v1 w =>
  vFA (some 0) v1 fun v6 =>
  vLd .one v6 w fun v7 =>
  CallK Tryd.prog 43 #[v7] w fun v8 w_2 =>
  vAlloc Tryd.prog 100 w_2 fun v3 w_3 =>
  vSt (some 3) v3 v8 w_3 fun w_4 =>
  joinF [1, 3, 19] (fun J1 =>
  vFA (some 0) v3 fun v9 =>
  vLd .one v9 w_4 fun v10 =>
  vBin .string .eql v10 (.string ⟨#[]⟩) fun v11 =>
  vBool v11 fun g => if g = true then
  (J1 [v1, v3, (.bool true)] [] w_4)
  else
  (vFA (some 2) v3 fun v13 =>
  vLd .one v13 w_4 fun v14 =>
  vFA (some 4) v1 fun v15 =>
  vLd .one v15 w_4 fun v16 =>
  CallK Tryd.prog 63 #[v14, v16] w_4 fun v17 w_5 =>
  vUn .not v17 fun v18 =>
  J1 [v1, v3, v18] [] w_5))
  (F55J1 K)

def tab55 : Tab := { sel := [(5, [3, 26, 27])], plan := [], join := [(3, [1, 3, 19])] }

theorem F55_eq (t0 : Value) (w : World) (K : Value → World → Prop) : enterV Tryd.prog tab55 Tryd.f55 [t0] w K = F55 t0 w K := by kernel_rfl

theorem F55_ok {t0 : Value} {w : World} {K : Value → World → Prop} (h : F55 t0 w K) : Ret Tryd.prog 55 #[t0] w K :=
  enter_sound (T := tab55) (args := [t0]) Tryd.func55 Tryd.call55 mixed (by kernel_rfl) (by rw [F55_eq]; exact h)

def F57L1 (K : Value → World → Prop) (ρ : Env) (ds : List Nat) (w : World) (ag1 : List Value → List Nat → World → Prop) : Prop :=
  vBin (.int .i64) .lss (ρ 4) (.int .i64 8) fun v7 =>
  vBool v7 fun c => if c = true then
   (vBin (.int .u64) .rem (ρ 0) (.int .u64 256) fun v12 =>
  vConv (.int .u8) v12 fun v13 =>
  vBuildSlice Tryd.prog 42 1 [(0, v13)] w fun v14 w_2 =>
  vAppend Tryd.prog 42 42 (ρ 3) v14 w_2 fun v15 w_3 =>
  vBin (.int .u64) .quo (ρ 0) (.int .u64 256) fun v17 =>
  vBin (.int .i64) .add (ρ 4) (.int .i64 1) fun v9 =>
  ag1 [v17, v15, v9] ds w_3)
  else
  vB2S (ρ 3) w fun v19 =>
  leaveV ds w fun W => K v19 W

/-- gatehouse/gatehouseref03.Eight -/
def F57 (t0 : Value) (w : World) (K : Value → World → Prop) : Prop :=
  vBuildSlice Tryd.prog 42 0 [] w fun v5 w =>
  loopF [0, 3, 4] [t0, v5, (.int .i64 0)] [] w (F57L1 K)

def tab57 : Tab := { sel := [(3, [0, 3, 4])], plan := [], join := [] }

theorem F57_eq (t0 : Value) (w : World) (K : Value → World → Prop) : enterV Tryd.prog tab57 Tryd.f57 [t0] w K = F57 t0 w K := by kernel_rfl

theorem F57_ok {t0 : Value} {w : World} {K : Value → World → Prop} (h : F57 t0 w K) : Ret Tryd.prog 57 #[t0] w K :=
  enter_sound (T := tab57) (args := [t0]) Tryd.func57 Tryd.call57 mixed (by kernel_rfl) (by rw [F57_eq]; exact h)

/-- gatehouse/gatehouseref06.Put -/
def F58 (t0 : Value) (t1 : Value) (t2 : Value) (w : World) (K : Value → World → Prop) : Prop :=
  vBox 25 t0 w fun v3 w =>
  vAlloc Tryd.prog 25 w fun v6 w_2 =>
  vFA (some 0) v3 fun v9 =>
  vIA (.arr 16 1) v9 t1 fun v10 =>
  vSt (some 1) v10 t2 w_2 fun w_3 =>
  vLd (.agg 17) v3 w_3 fun v11 =>
  vSt (some 17) v6 v11 w_3 fun w_4 =>
  vLd (.agg 17) v6 w_4 fun r => K r w_4

def tab58 : Tab := { sel := [], plan := [], join := [] }

theorem F58_eq (t0 : Value) (t1 : Value) (t2 : Value) (w : World) (K : Value → World → Prop) : enterV Tryd.prog tab58 Tryd.f58 [t0, t1, t2] w K = F58 t0 t1 t2 w K := by kernel_rfl

theorem F58_ok {t0 : Value} {t1 : Value} {t2 : Value} {w : World} {K : Value → World → Prop} (h : F58 t0 t1 t2 w K) : Ret Tryd.prog 58 #[t0, t1, t2] w K :=
  enter_sound (T := tab58) (args := [t0, t1, t2]) Tryd.func58 Tryd.call58 mixed (by kernel_rfl) (by rw [F58_eq]; exact h)

def F59L1 (K : Value → World → Prop) (ρ : Env) (ds : List Nat) (w : World) (ag1 : List Value → List Nat → World → Prop) : Prop :=
  vBin (.int .i64) .geq (ρ 4) (.int .i64 0) fun v9 =>
  vBool v9 fun c => if c = true then
   (vBin (.int .u64) .mul (ρ 3) (.int .u64 256) fun v13 =>
  vIx .string .bad (ρ 0) (ρ 4) fun v16 =>
  vConv (.int .u64) v16 fun v17 =>
  vBin (.int .u64) .add v13 v17 fun v18 =>
  vBin (.int .i64) .sub (ρ 4) (.int .i64 1) fun v11 =>
  ag1 [(ρ 0), v18, v11] ds w)
  else
  leaveV ds w fun W => K (ρ 3) W

/-- gatehouse/gatehouseref06.value -/
def F59 (t0 : Value) (w : World) (K : Value → World → Prop) : Prop :=
  vLen .string t0 fun v6 =>
  vBin (.int .i64) .sub v6 (.int .i64 1) fun v7 =>
  loopF [0, 3, 4] [t0, (.int .u64 0), v7] [] w (F59L1 K)

def tab59 : Tab := { sel := [(3, [0, 3, 4])], plan := [], join := [] }

theorem F59_eq (t0 : Value) (w : World) (K : Value → World → Prop) : enterV Tryd.prog tab59 Tryd.f59 [t0] w K = F59 t0 w K := by kernel_rfl

theorem F59_ok {t0 : Value} {w : World} {K : Value → World → Prop} (h : F59 t0 w K) : Ret Tryd.prog 59 #[t0] w K :=
  enter_sound (T := tab59) (args := [t0]) Tryd.func59 Tryd.call59 mixed (by kernel_rfl) (by rw [F59_eq]; exact h)

/-- gatehouse/isa.fits -/
def F63 (t0 : Value) (t1 : Value) (w : World) (K : Value → World → Prop) : Prop :=
  vBin (.int .i64) .eql t0 (.int .i64 1) fun v7 =>
  vBool v7 fun c => if c = true then
   (vBin (.int .i64) .shr t1 (.int .u64 16) fun v9 =>
   vBin (.int .i64) .eql v9 (.int .i64 0) fun v10 =>
   K v10 w)
  else
  vBin (.int .i64) .eql t0 (.int .i64 2) fun v12 =>
  vBool v12 fun c_2 => if c_2 = true then
   (vBin (.int .i64) .shr t1 (.int .u64 8) fun v14 =>
   vBin (.int .i64) .eql v14 (.int .i64 0) fun v15 =>
   K v15 w)
  else
  vBin (.int .i64) .eql t0 (.int .i64 3) fun v17 =>
  vBool v17 fun c_3 => if c_3 = true then
   (vConv (.int .i16) t1 fun v20 =>
   vConv (.int .i64) v20 fun v21 =>
   vBin (.int .i64) .eql t1 v21 fun v22 =>
   K v22 w)
  else
  vBin (.int .i64) .eql t1 (.int .i64 0) fun v24 =>
  K v24 w

def tab63 : Tab := { sel := [], plan := [], join := [] }

theorem F63_eq (t0 : Value) (t1 : Value) (w : World) (K : Value → World → Prop) : enterV Tryd.prog tab63 Tryd.f63 [t0, t1] w K = F63 t0 t1 w K := by kernel_rfl

theorem F63_ok {t0 : Value} {t1 : Value} {w : World} {K : Value → World → Prop} (h : F63 t0 t1 w K) : Ret Tryd.prog 63 #[t0, t1] w K :=
  enter_sound (T := tab63) (args := [t0, t1]) Tryd.func63 Tryd.call63 mixed (by kernel_rfl) (by rw [F63_eq]; exact h)

/-- (gatehouse/cpu.flat).Load -/
def F85 (t0 : Value) (t1 : Value) (t2 : Value) (t3 : Value) (w : World) (K : Value → World → Prop) : Prop :=
  vBox 78 t0 w fun v4 w =>
  drawF w fun S =>
  vFA (some 0) v4 fun v10 =>
  vLdS S .one v10 fun v11 =>
  (CallK Tryd.prog 87 #[t1] w.drew fun v13 w_2 =>
  S w_2 ∧ ((CallK Tryd.prog 15 #[v11, v13, t2] w_2 fun v15 w_3 =>
  S w_3 ∧ (vExt v15 0 fun v16 =>
  vExt v15 1 fun v17 =>
  K (.tuple #[v16, v17]) w_3)) ∧
  (True))) ∧
  (True)

def tab85 : Tab := { sel := [], plan := [(1, (.take 0 (.take 1 (.take 2 (.take 4 (.alt 3 (.alt 5 (.take 6 (.take 7 (.take 8 (.take 9 .done)))) .stop) .stop))))))], join := [] }

theorem F85_eq (t0 : Value) (t1 : Value) (t2 : Value) (t3 : Value) (w : World) (K : Value → World → Prop) : enterV Tryd.prog tab85 Tryd.f85 [t0, t1, t2, t3] w K = F85 t0 t1 t2 t3 w K := by kernel_rfl

theorem F85_ok {t0 : Value} {t1 : Value} {t2 : Value} {t3 : Value} {w : World} {K : Value → World → Prop} (h : F85 t0 t1 t2 t3 w K) : Ret Tryd.prog 85 #[t0, t1, t2, t3] w K :=
  enter_sound (T := tab85) (args := [t0, t1, t2, t3]) Tryd.func85 Tryd.call85 mixed (by kernel_rfl) (by rw [F85_eq]; exact h)

/-- (gatehouse/cpu.flat).Store -/
def F86 (t0 : Value) (t1 : Value) (t2 : Value) (w : World) (K : Value → World → Prop) : Prop :=
  vBox 78 t0 w fun v3 w =>
  drawF w fun S =>
  vFA (some 0) v3 fun v7 =>
  vLdS S .one v7 fun v8 =>
  (CallK Tryd.prog 87 #[t1] w.drew fun v10 w_2 =>
  S w_2 ∧ ((vBuildSlice Tryd.prog 63 1 [(0, t2)] w_2 fun v12 w_3 =>
  S w_3 ∧ ((CallK Tryd.prog 12 #[v8, v10, v12] w_3 fun v13 w_4 =>
  S w_4 ∧ (K v13 w_4)) ∧
  (True))) ∧
  (True))) ∧
  ((vBuildSlice Tryd.prog 63 1 [(0, t2)] w.drew fun v12_2 w_5 =>
  S w_5 ∧ ((CallK Tryd.prog 87 #[t1] w_5 fun v10_2 w_6 =>
  S w_6 ∧ ((CallK Tryd.prog 12 #[v8, v10_2, v12_2] w_6 fun v13_2 w_7 =>
  S w_7 ∧ (K v13_2 w_7)) ∧
  (True))) ∧
  (True))) ∧
  (True))

def tab86 : Tab := { sel := [], plan := [(1, (.take 0 (.take 1 (.take 2 (.take 4 (.alt 3 (.alt 5 (.alt 6 (.take 7 .done) .stop) .stop) (.alt 5 (.alt 3 (.alt 6 (.take 7 .done) .stop) .stop) .stop)))))))], join := [] }

theorem F86_eq (t0 : Value) (t1 : Value) (t2 : Value) (w : World) (K : Value → World → Prop) : enterV Tryd.prog tab86 Tryd.f86 [t0, t1, t2] w K = F86 t0 t1 t2 w K := by kernel_rfl

theorem F86_ok {t0 : Value} {t1 : Value} {t2 : Value} {w : World} {K : Value → World → Prop} (h : F86 t0 t1 t2 w K) : Ret Tryd.prog 86 #[t0, t1, t2] w K :=
  enter_sound (T := tab86) (args := [t0, t1, t2]) Tryd.func86 Tryd.call86 mixed (by kernel_rfl) (by rw [F86_eq]; exact h)

/-- (gatehouse/gatehouselaw06.Flat).Load -/
def F83 (t0 : Value) (t1 : Value) (t2 : Value) (t3 : Value) (w : World) (K : Value → World → Prop) : Prop :=
  vBox 35 t0 w fun v4 w =>
  vBin (.int .u64) .gtr t1 (.int .u64 1048576) fun v11 =>
  vBool v11 fun c => if c = true then
   (K (.tuple #[(.string ⟨#[]⟩), (.int .i64 9)]) w)
  else
  vFA (some 0) v4 fun v12 =>
  vLd .one v12 w fun v13 =>
  vConv (.int .i64) t1 fun v15 =>
  CallK Tryd.prog 15 #[v13, v15, t2] w fun v17 w_2 =>
  vExt v17 0 fun v18 =>
  vExt v17 1 fun v19 =>
  K (.tuple #[v18, v19]) w_2

def tab83 : Tab := { sel := [], plan := [], join := [] }

theorem F83_eq (t0 : Value) (t1 : Value) (t2 : Value) (t3 : Value) (w : World) (K : Value → World → Prop) : enterV Tryd.prog tab83 Tryd.f83 [t0, t1, t2, t3] w K = F83 t0 t1 t2 t3 w K := by kernel_rfl

theorem F83_ok {t0 : Value} {t1 : Value} {t2 : Value} {t3 : Value} {w : World} {K : Value → World → Prop} (h : F83 t0 t1 t2 t3 w K) : Ret Tryd.prog 83 #[t0, t1, t2, t3] w K :=
  enter_sound (T := tab83) (args := [t0, t1, t2, t3]) Tryd.func83 Tryd.call83 mixed (by kernel_rfl) (by rw [F83_eq]; exact h)

/-- (gatehouse/gatehouselaw06.Flat).Store -/
def F84 (t0 : Value) (t1 : Value) (t2 : Value) (w : World) (K : Value → World → Prop) : Prop :=
  vBox 35 t0 w fun v3 w =>
  vBin (.int .u64) .gtr t1 (.int .u64 1048576) fun v8 =>
  vBool v8 fun c => if c = true then
   (K (.int .i64 9) w)
  else
  vFA (some 0) v3 fun v9 =>
  vLd .one v9 w fun v10 =>
  vConv (.int .i64) t1 fun v12 =>
  vBuildSlice Tryd.prog 63 1 [(0, t2)] w fun v14 w_2 =>
  CallK Tryd.prog 12 #[v10, v12, v14] w_2 fun v15 w_3 =>
  K v15 w_3

def tab84 : Tab := { sel := [], plan := [], join := [] }

theorem F84_eq (t0 : Value) (t1 : Value) (t2 : Value) (w : World) (K : Value → World → Prop) : enterV Tryd.prog tab84 Tryd.f84 [t0, t1, t2] w K = F84 t0 t1 t2 w K := by kernel_rfl

theorem F84_ok {t0 : Value} {t1 : Value} {t2 : Value} {w : World} {K : Value → World → Prop} (h : F84 t0 t1 t2 w K) : Ret Tryd.prog 84 #[t0, t1, t2] w K :=
  enter_sound (T := tab84) (args := [t0, t1, t2]) Tryd.func84 Tryd.call84 mixed (by kernel_rfl) (by rw [F84_eq]; exact h)

/-- gatehouse/cpu.at -/
def F87 (t0 : Value) (w : World) (K : Value → World → Prop) : Prop :=
  vBin (.int .u64) .gtr t0 (.int .u64 4096) fun v4 =>
  vBool v4 fun c => if c = true then
   (K (.int .i64 (-1)) w)
  else
  vConv (.int .i64) t0 fun v6 =>
  K v6 w

def tab87 : Tab := { sel := [], plan := [], join := [] }

theorem F87_eq (t0 : Value) (w : World) (K : Value → World → Prop) : enterV Tryd.prog tab87 Tryd.f87 [t0] w K = F87 t0 w K := by kernel_rfl

theorem F87_ok {t0 : Value} {w : World} {K : Value → World → Prop} (h : F87 t0 w K) : Ret Tryd.prog 87 #[t0] w K :=
  enter_sound (T := tab87) (args := [t0]) Tryd.func87 Tryd.call87 mixed (by kernel_rfl) (by rw [F87_eq]; exact h)

end Go.Proofs.YtmaecpbkbkncgaaDoor
