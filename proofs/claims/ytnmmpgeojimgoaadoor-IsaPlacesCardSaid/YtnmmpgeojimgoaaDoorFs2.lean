import Derived.Test.YtnmmpgeojimgoaaDoorVe
import Derived.Test.YtnmmpgeojimgoaaDoorFsA
set_option linter.unusedVariables false
namespace Go.Proofs.YtnmmpgeojimgoaaDoor
open Go Go.V
set_option maxRecDepth 100000
set_option maxRecDepth 100000

def F3J1 (K : Value → World → Prop) (ρ : Env) (ds : List Nat) (w : World) : Prop :=
  vBool (ρ 37) fun c_2 => if c_2 = true then
   (leaveV ds w fun W => K (.bool false) W)
  else
  vUn .not (ρ 3) fun v39 =>
  vBool v39 fun c_3 => if c_3 = true then
   (vBin (.int .i64) .eql (ρ 5) (.int .i64 12) fun v41 =>
   vBool v41 fun g => if g = true then
   (vBin (.int .i64) .eql (ρ 7) (.int .i64 12) fun v44 =>
   vBool v44 fun g_2 => if g_2 = true then
   (vBin .string .eql (ρ 4) (.string ⟨#[]⟩) fun v48 =>
   vBool v48 fun g_3 => if g_3 = true then
   (vBin .string .eql (ρ 6) (.string ⟨#[]⟩) fun v52 =>
   leaveV ds w fun W => K v52 W)
   else
   (leaveV ds w fun W => K (.bool false) W))
   else
   (leaveV ds w fun W => K (.bool false) W))
   else
   (leaveV ds w fun W => K (.bool false) W))
  else
  vLd (.agg 5) (ρ 1) w fun v55 =>
  CallK Tryd.prog 15 #[v55] w fun v56 w_6 =>
  vBin .string .eql (ρ 4) v56 fun v57 =>
  vBool v57 fun g_4 => if g_4 = true then
  (vLd (.agg 5) (ρ 1) w_6 fun v60 =>
  CallK Tryd.prog 16 #[v60] w_6 fun v61 w_7 =>
  vBin .string .eql (ρ 6) v61 fun v62 =>
  leaveV ds w_7 fun W => K v62 W)
  else
  (leaveV ds w_6 fun W => K (.bool false) W)

/-- gatehouse/gatehouselaw02.IsaCodes -/
def F3 (t0 : Value) (w : World) (K : Value → World → Prop) : Prop :=
  vBox 23 t0 w fun v1 w =>
  CallK Tryd.prog 10 #[] w fun v8 w_2 =>
  vUn .not v8 fun v9 =>
  vBool v9 fun c => if c = true then
   (K (.bool false) w_2)
  else
  vLd (.agg 5) v1 w_2 fun v10 =>
  CallK Tryd.prog 11 #[v10] w_2 fun v11 w_3 =>
  vLd (.agg 5) v1 w_3 fun v13 =>
  CallK Tryd.prog 12 #[v13] w_3 fun v14 w_4 =>
  vExt v14 0 fun v15 =>
  vExt v14 1 fun v16 =>
  vLd (.agg 5) v1 w_4 fun v18 =>
  CallK Tryd.prog 13 #[v18] w_4 fun v19 w_5 =>
  vExt v19 0 fun v20 =>
  vExt v19 1 fun v21 =>
  joinF [1, 3, 4, 5, 6, 7, 37] (fun J1 =>
  vLd (.agg 5) v1 w_5 fun v22 =>
  CallK Tryd.prog 14 #[v22] w_5 fun v23 w_6 =>
  vBin .bool .neq v23 v11 fun v25 =>
  vBool v25 fun g => if g = true then
  (J1 [v1, v11, v15, v16, v20, v21, (.bool true)] [] w_6)
  else
  (vBin (.int .i64) .eql v16 (.int .i64 0) fun v28 =>
  vBin .bool .neq v28 v11 fun v30 =>
  vBool v30 fun g_2 => if g_2 = true then
  (J1 [v1, v11, v15, v16, v20, v21, (.bool true)] [] w_6)
  else
  (vBin (.int .i64) .eql v21 (.int .i64 0) fun v34 =>
  vBin .bool .neq v34 v11 fun v36 =>
  J1 [v1, v11, v15, v16, v20, v21, v36] [] w_6)))
  (F3J1 K)

def tab3 : Tab := { sel := [], plan := [], join := [(7, [1, 3, 4, 5, 6, 7, 37])] }

theorem F3_eq (t0 : Value) (w : World) (K : Value → World → Prop) : enterV Tryd.prog tab3 Tryd.f3 [t0] w K = F3 t0 w K := by kernel_rfl

theorem F3_ok {t0 : Value} {w : World} {K : Value → World → Prop} (h : F3 t0 w K) : Ret Tryd.prog 3 #[t0] w K :=
  enter_sound (T := tab3) (args := [t0]) Tryd.func3 Tryd.call3 mixed (by kernel_rfl) (by rw [F3_eq]; exact h)

def F4J1 (K : Value → World → Prop) (ρ : Env) (ds : List Nat) (w : World) : Prop :=
  vBool (ρ 29) fun c_3 => if c_3 = true then
   (vBin (.int .i64) .eql (ρ 4) (.int .i64 2) fun v31 =>
   vBool v31 fun g => if g = true then
   (vLd (.agg 5) (ρ 3) w fun v33 =>
   vBuild Tryd.prog 23 [] fun v34 =>
   vAggEq Tryd.prog 23 .eql v33 v34 fun v35 =>
   leaveV ds w fun W => K v35 W)
   else
   (leaveV ds w fun W => K (.bool false) W))
  else
  vBin (.int .i64) .eql (ρ 4) (.int .i64 0) fun v38 =>
  vBool v38 fun g_2 => if g_2 = true then
  (vLd (.agg 5) (ρ 3) w fun v40 =>
  vLd (.agg 5) (ρ 5) w fun v41 =>
  vAggEq Tryd.prog 23 .eql v40 v41 fun v42 =>
  vBool v42 fun g_3 => if g_3 = true then
  (vLd (.agg 5) (ρ 3) w fun v45 =>
  CallK Tryd.prog 16 #[v45] w fun v46 w_8 =>
  vBin .string .eql v46 (ρ 0) fun v48 =>
  leaveV ds w_8 fun W => K v48 W)
  else
  (leaveV ds w fun W => K (.bool false) W))
  else
  (leaveV ds w fun W => K (.bool false) W)

/-- gatehouse/gatehouselaw02.IsaParses -/
def F4 (t0 : Value) (w : World) (K : Value → World → Prop) : Prop :=
  CallK Tryd.prog 10 #[] w fun v8 w =>
  vUn .not v8 fun v9 =>
  vBool v9 fun c => if c = true then
   (K (.bool false) w)
  else
  vLen .string t0 fun v11 =>
  vBin (.int .i64) .gtr v11 (.int .i64 2000) fun v12 =>
  vBool v12 fun c_2 => if c_2 = true then
   (K (.bool true) w)
  else
  CallK Tryd.prog 17 #[t0] w fun v15 w_2 =>
  vExt v15 0 fun v16 =>
  vExt v15 1 fun v17 =>
  vAlloc Tryd.prog 23 w_2 fun v3 w_3 =>
  vSt (some 5) v3 v16 w_3 fun w_4 =>
  CallK Tryd.prog 18 #[t0] w_4 fun v20 w_5 =>
  vExt v20 0 fun v21 =>
  vExt v20 1 fun v22 =>
  vExt v20 2 fun v23 =>
  vAlloc Tryd.prog 23 w_5 fun v5 w_6 =>
  vSt (some 5) v5 v21 w_6 fun w_7 =>
  joinF [0, 3, 4, 5, 29] (fun J1 =>
  vUn .not v23 fun v25 =>
  vBool v25 fun g => if g = true then
  (J1 [t0, v3, v17, v5, (.bool true)] [] w_7)
  else
  (vBin .string .neq v22 (.string ⟨#[]⟩) fun v28 =>
  J1 [t0, v3, v17, v5, v28] [] w_7))
  (F4J1 K)

def tab4 : Tab := { sel := [], plan := [], join := [(8, [0, 3, 4, 5, 29])] }

theorem F4_eq (t0 : Value) (w : World) (K : Value → World → Prop) : enterV Tryd.prog tab4 Tryd.f4 [t0] w K = F4 t0 w K := by kernel_rfl

theorem F4_ok {t0 : Value} {w : World} {K : Value → World → Prop} (h : F4 t0 w K) : Ret Tryd.prog 4 #[t0] w K :=
  enter_sound (T := tab4) (args := [t0]) Tryd.func4 Tryd.call4 mixed (by kernel_rfl) (by rw [F4_eq]; exact h)

/-- gatehouse/gatehouselaw02.IsaBuilds -/
def F5 (t0 : Value) (w : World) (K : Value → World → Prop) : Prop :=
  CallK Tryd.prog 10 #[] w fun v9 w =>
  vUn .not v9 fun v10 =>
  vBool v10 fun c => if c = true then
   (K (.bool false) w)
  else
  vLen .string t0 fun v12 =>
  vBin (.int .i64) .gtr v12 (.int .i64 4000) fun v13 =>
  vBool v13 fun c_2 => if c_2 = true then
   (K (.bool true) w)
  else
  CallK Tryd.prog 19 #[t0] w fun v16 w_2 =>
  vExt v16 0 fun v17 =>
  vExt v16 1 fun v18 =>
  vExt v16 2 fun v19 =>
  CallK Tryd.prog 20 #[t0] w_2 fun v22 w_3 =>
  vExt v22 0 fun v23 =>
  vExt v22 1 fun v24 =>
  vExt v22 2 fun v25 =>
  vBin .string .eql v17 v23 fun v28 =>
  vBool v28 fun g => if g = true then
  (vBin (.int .i64) .eql v18 v24 fun v32 =>
  vBool v32 fun g_2 => if g_2 = true then
  (vBin (.int .i64) .eql v19 v25 fun v37 =>
  K v37 w_3)
  else
  (K (.bool false) w_3))
  else
  (K (.bool false) w_3)

def tab5 : Tab := { sel := [], plan := [], join := [] }

theorem F5_eq (t0 : Value) (w : World) (K : Value → World → Prop) : enterV Tryd.prog tab5 Tryd.f5 [t0] w K = F5 t0 w K := by kernel_rfl

theorem F5_ok {t0 : Value} {w : World} {K : Value → World → Prop} (h : F5 t0 w K) : Ret Tryd.prog 5 #[t0] w K :=
  enter_sound (T := tab5) (args := [t0]) Tryd.func5 Tryd.call5 mixed (by kernel_rfl) (by rw [F5_eq]; exact h)

/-- gatehouse/gatehouselaw02.IsaDecodes -/
def F6 (t0 : Value) (w : World) (K : Value → World → Prop) : Prop :=
  CallK Tryd.prog 10 #[] w fun v7 w =>
  vUn .not v7 fun v8 =>
  vBool v8 fun c => if c = true then
   (K (.bool false) w)
  else
  CallK Tryd.prog 21 #[t0] w fun v11 w_2 =>
  vExt v11 0 fun v12 =>
  vExt v11 1 fun v13 =>
  vAlloc Tryd.prog 23 w_2 fun v3 w_3 =>
  vSt (some 5) v3 v12 w_3 fun w_4 =>
  CallK Tryd.prog 22 #[t0] w_4 fun v16 w_5 =>
  vExt v16 0 fun v17 =>
  vExt v16 1 fun v18 =>
  vAlloc Tryd.prog 23 w_5 fun v5 w_6 =>
  vSt (some 5) v5 v17 w_6 fun w_7 =>
  vUn .not v18 fun v20 =>
  vBool v20 fun c_2 => if c_2 = true then
   (vBin (.int .i64) .eql v13 (.int .i64 12) fun v22 =>
   vBool v22 fun g => if g = true then
   (vLd (.agg 5) v3 w_7 fun v24 =>
   vBuild Tryd.prog 23 [] fun v25 =>
   vAggEq Tryd.prog 23 .eql v24 v25 fun v26 =>
   K v26 w_7)
   else
   (K (.bool false) w_7))
  else
  vBin (.int .i64) .eql v13 (.int .i64 0) fun v29 =>
  vBool v29 fun g_2 => if g_2 = true then
  (vLd (.agg 5) v3 w_7 fun v31 =>
  vLd (.agg 5) v5 w_7 fun v32 =>
  vAggEq Tryd.prog 23 .eql v31 v32 fun v33 =>
  vBool v33 fun g_3 => if g_3 = true then
  (vLd (.agg 5) v3 w_7 fun v36 =>
  CallK Tryd.prog 15 #[v36] w_7 fun v37 w_8 =>
  vBin .string .eql v37 t0 fun v39 =>
  K v39 w_8)
  else
  (K (.bool false) w_7))
  else
  (K (.bool false) w_7)

def tab6 : Tab := { sel := [], plan := [], join := [] }

theorem F6_eq (t0 : Value) (w : World) (K : Value → World → Prop) : enterV Tryd.prog tab6 Tryd.f6 [t0] w K = F6 t0 w K := by kernel_rfl

theorem F6_ok {t0 : Value} {w : World} {K : Value → World → Prop} (h : F6 t0 w K) : Ret Tryd.prog 6 #[t0] w K :=
  enter_sound (T := tab6) (args := [t0]) Tryd.func6 Tryd.call6 mixed (by kernel_rfl) (by rw [F6_eq]; exact h)

def F7J1 (K : Value → World → Prop) (ρ : Env) (ds : List Nat) (w : World) : Prop :=
  vBool (ρ 26) fun c_2 => if c_2 = true then
   (leaveV ds w fun W => K (.bool true) W)
  else
  vLd (.agg 5) (ρ 2) w fun v28 =>
  CallK Tryd.prog 12 #[v28] w fun v29 w_4 =>
  vExt v29 0 fun v30 =>
  vExt v29 1 fun v31 =>
  vLd (.agg 5) (ρ 2) w_4 fun v33 =>
  CallK Tryd.prog 13 #[v33] w_4 fun v34 w_5 =>
  vExt v34 0 fun v35 =>
  vExt v34 1 fun v36 =>
  vLd (.agg 5) (ρ 3) w_5 fun v38 =>
  CallK Tryd.prog 12 #[v38] w_5 fun v39 w_6 =>
  vExt v39 0 fun v40 =>
  vExt v39 1 fun v41 =>
  vLd (.agg 5) (ρ 3) w_6 fun v43 =>
  CallK Tryd.prog 13 #[v43] w_6 fun v44 w_7 =>
  vExt v44 0 fun v45 =>
  vExt v44 1 fun v46 =>
  CallK Tryd.prog 21 #[v30] w_7 fun v49 w_8 =>
  vExt v49 0 fun v50 =>
  vExt v49 1 fun v51 =>
  vAlloc Tryd.prog 23 w_8 fun v13 w_9 =>
  vSt (some 5) v13 v50 w_9 fun w_10 =>
  CallK Tryd.prog 17 #[v35] w_10 fun v54 w_11 =>
  vExt v54 0 fun v55 =>
  vExt v54 1 fun v56 =>
  vAlloc Tryd.prog 23 w_11 fun v15 w_12 =>
  vSt (some 5) v15 v55 w_12 fun w_13 =>
  vBin (.int .i64) .eql v51 (.int .i64 0) fun v58 =>
  vBool v58 fun g => if g = true then
  (vBin (.int .i64) .eql v56 (.int .i64 0) fun v61 =>
  vBool v61 fun g_2 => if g_2 = true then
  (vLd (.agg 5) v13 w_13 fun v64 =>
  vLd (.agg 5) (ρ 2) w_13 fun v65 =>
  vAggEq Tryd.prog 23 .eql v64 v65 fun v66 =>
  vBool v66 fun g_3 => if g_3 = true then
  (vLd (.agg 5) v15 w_13 fun v69 =>
  vLd (.agg 5) (ρ 2) w_13 fun v70 =>
  vAggEq Tryd.prog 23 .eql v69 v70 fun v71 =>
  vBool v71 fun g_4 => if g_4 = true then
  (vLen .string v30 fun v75 =>
  vBin (.int .i64) .eql v75 (.int .i64 4) fun v76 =>
  vBool v76 fun g_5 => if g_5 = true then
  (vBin .string .eql v30 v40 fun v81 =>
  vLd (.agg 5) (ρ 2) w_13 fun v82 =>
  vLd (.agg 5) (ρ 3) w_13 fun v83 =>
  vAggEq Tryd.prog 23 .eql v82 v83 fun v84 =>
  vBin .bool .eql v81 v84 fun v85 =>
  vBool v85 fun g_6 => if g_6 = true then
  (vBin .string .eql v35 v45 fun v90 =>
  vLd (.agg 5) (ρ 2) w_13 fun v91 =>
  vLd (.agg 5) (ρ 3) w_13 fun v92 =>
  vAggEq Tryd.prog 23 .eql v91 v92 fun v93 =>
  vBin .bool .eql v90 v93 fun v94 =>
  leaveV ds w_13 fun W => K v94 W)
  else
  (leaveV ds w_13 fun W => K (.bool false) W))
  else
  (leaveV ds w_13 fun W => K (.bool false) W))
  else
  (leaveV ds w_13 fun W => K (.bool false) W))
  else
  (leaveV ds w_13 fun W => K (.bool false) W))
  else
  (leaveV ds w_13 fun W => K (.bool false) W))
  else
  (leaveV ds w_13 fun W => K (.bool false) W)

/-- gatehouse/gatehouselaw02.IsaBack -/
def F7 (t0 : Value) (t1 : Value) (w : World) (K : Value → World → Prop) : Prop :=
  vBox 23 t0 w fun v2 w =>
  vBox 23 t1 w fun v3 w_2 =>
  CallK Tryd.prog 10 #[] w_2 fun v17 w_3 =>
  vUn .not v17 fun v18 =>
  vBool v18 fun c => if c = true then
   (K (.bool false) w_3)
  else
  joinF [2, 3, 26] (fun J1 =>
  vLd (.agg 5) v2 w_3 fun v19 =>
  CallK Tryd.prog 14 #[v19] w_3 fun v20 w_4 =>
  vUn .not v20 fun v21 =>
  vBool v21 fun g => if g = true then
  (J1 [v2, v3, (.bool true)] [] w_4)
  else
  (vLd (.agg 5) v3 w_4 fun v23 =>
  CallK Tryd.prog 14 #[v23] w_4 fun v24 w_5 =>
  vUn .not v24 fun v25 =>
  J1 [v2, v3, v25] [] w_5))
  (F7J1 K)

def tab7 : Tab := { sel := [], plan := [], join := [(4, [2, 3, 26])] }

theorem F7_eq (t0 : Value) (t1 : Value) (w : World) (K : Value → World → Prop) : enterV Tryd.prog tab7 Tryd.f7 [t0, t1] w K = F7 t0 t1 w K := by kernel_rfl

theorem F7_ok {t0 : Value} {t1 : Value} {w : World} {K : Value → World → Prop} (h : F7 t0 t1 w K) : Ret Tryd.prog 7 #[t0, t1] w K :=
  enter_sound (T := tab7) (args := [t0, t1]) Tryd.func7 Tryd.call7 mixed (by kernel_rfl) (by rw [F7_eq]; exact h)

def F8J5 (K : Value → World → Prop) (ρ : Env) (ds : List Nat) (w : World) : Prop :=
  vBool (ρ 113) fun c_7 => if c_7 = true then
   (leaveV ds w fun W => K (.bool false) W)
  else
  vSlice .string (ρ 19) none (some (.int .i64 4)) fun v116 =>
  CallK Tryd.prog 21 #[v116] w fun v117 w_9 =>
  vExt v117 0 fun v118 =>
  vExt v117 1 fun v119 =>
  vAlloc Tryd.prog 23 w_9 fun v22 w_10 =>
  vSt (some 5) v22 v118 w_10 fun w_11 =>
  vLen .string (ρ 19) fun v123 =>
  vBin (.int .i64) .sub v123 (.int .i64 4) fun v124 =>
  vSlice .string (ρ 19) (some v124) none fun v125 =>
  CallK Tryd.prog 21 #[v125] w_11 fun v126 w_12 =>
  vExt v126 0 fun v127 =>
  vExt v126 1 fun v128 =>
  vAlloc Tryd.prog 23 w_12 fun v24 w_13 =>
  vSt (some 5) v24 v127 w_13 fun w_14 =>
  vBin (.int .i64) .eql v119 (.int .i64 0) fun v130 =>
  vBool v130 fun g_3 => if g_3 = true then
  (vBin (.int .i64) .eql v128 (.int .i64 0) fun v133 =>
  vBool v133 fun g_4 => if g_4 = true then
  (vLd (.agg 5) v22 w_14 fun v136 =>
  vBuild Tryd.prog 23 [(0, (.int .i64 22)), (4, (ρ 8))] fun v138 =>
  vAggEq Tryd.prog 23 .eql v136 v138 fun v139 =>
  vBool v139 fun g_5 => if g_5 = true then
  (vLd (.agg 5) v24 w_14 fun v142 =>
  vUn .neg (ρ 9) fun v144 =>
  vBin (.int .i64) .sub v144 (.int .i64 1) fun v145 =>
  vBuild Tryd.prog 23 [(0, (.int .i64 23)), (1, (.int .i64 3)), (4, v145)] fun v146 =>
  vAggEq Tryd.prog 23 .eql v142 v146 fun v147 =>
  leaveV ds w_14 fun W => K v147 W)
  else
  (leaveV ds w_14 fun W => K (.bool false) W))
  else
  (leaveV ds w_14 fun W => K (.bool false) W))
  else
  (leaveV ds w_14 fun W => K (.bool false) W)

def F8L3 (K : Value → World → Prop) (ρ : Env) (ds : List Nat) (w : World) (ag3 : List Value → List Nat → World → Prop) : Prop :=
  vBin (.int .i64) .lss (ρ 67) (ρ 66) fun v68 =>
  vBool v68 fun c_5 => if c_5 = true then
   (vIA (.slice 5) (ρ 65) (ρ 67) fun v70 =>
  vLd (.agg 5) v70 w fun v71 =>
  vAlloc Tryd.prog 23 w fun v16 w_5 =>
  vSt (some 5) v16 v71 w_5 fun w_6 =>
  vLd (.agg 5) v16 w_6 fun v73 =>
  CallK Tryd.prog 13 #[v73] w_6 fun v74 w_7 =>
  vExt v74 0 fun v75 =>
  vExt v74 1 fun v76 =>
  vBin (.int .i64) .eql v76 (.int .i64 0) fun v78 =>
  vBool v78 fun g_2 => if g_2 = true then
  (vBin (.int .i64) .lss (ρ 67) (.int .i64 100) fun v81 =>
  vBool v81 fun c_6 => if c_6 = true then
   (vBin .string .add v75 (.string ⟨#[10]⟩) fun v85 =>
   vBin .string .add (ρ 7) v85 fun v86 =>
   vBin (.int .i64) .add (ρ 9) (.int .i64 1) fun v88 =>
   vBin (.int .i64) .add (ρ 67) (.int .i64 1) fun v89 =>
  ag3 [v86, (ρ 8), v88, (ρ 65), (ρ 66), v89] ds w_7)
  else
  vBin (.int .i64) .add (ρ 67) (.int .i64 1) fun v89_2 =>
  ag3 [(ρ 7), (ρ 8), (ρ 9), (ρ 65), (ρ 66), v89_2] ds w_7)
  else
  (vBin (.int .i64) .add (ρ 67) (.int .i64 1) fun v89_3 =>
  ag3 [(ρ 7), (ρ 8), (ρ 9), (ρ 65), (ρ 66), v89_3] ds w_7))
  else
  vBin .string .add (.string ⟨#[103, 111, 32, 104, 101, 114, 101, 10]⟩) (ρ 7) fun v92 =>
  vBin .string .add v92 (.string ⟨#[122, 101, 114, 111, 32, 114, 51, 32, 104, 101, 114, 101]⟩) fun v93 =>
  CallK Tryd.prog 19 #[v93] w fun v94 w_8 =>
  vExt v94 0 fun v95 =>
  vExt v94 1 fun v96 =>
  vExt v94 2 fun v97 =>
  joinF [8, 9, 19, 113] (fun J5 =>
  vBin (.int .i64) .neq v97 (.int .i64 0) fun v99 =>
  vBool v99 fun g_3 => if g_3 = true then
  (J5 [(ρ 8), (ρ 9), v95, (.bool true)] ds w_8)
  else
  (vBin (.int .i64) .neq v96 (.int .i64 0) fun v102 =>
  vBool v102 fun g_4 => if g_4 = true then
  (J5 [(ρ 8), (ρ 9), v95, (.bool true)] ds w_8)
  else
  (vLen .string v95 fun v106 =>
  vBin (.int .i64) .add (ρ 8) (ρ 9) fun v109 =>
  vBin (.int .i64) .add v109 (.int .i64 2) fun v110 =>
  vBin (.int .i64) .mul (.int .i64 4) v110 fun v111 =>
  vBin (.int .i64) .neq v106 v111 fun v112 =>
  J5 [(ρ 8), (ρ 9), v95, v112] ds w_8)))
  (F8J5 K)

def F8L2 (K : Value → World → Prop) (ρ : Env) (ds : List Nat) (w : World) (ag2 : List Value → List Nat → World → Prop) : Prop :=
  vConv (.int .u64) (ρ 2) fun v55 =>
  vBin (.int .u64) .rem v55 (.int .u64 5) fun v56 =>
  vConv (.int .i64) v56 fun v57 =>
  vBin (.int .i64) .lss (ρ 14) v57 fun v58 =>
  vBool v58 fun c_4 => if c_4 = true then
   (vBin .string .add (ρ 7) (.string ⟨#[10]⟩) fun v62 =>
  vBin (.int .i64) .add (ρ 14) (.int .i64 1) fun v60 =>
  ag2 [(ρ 1), (ρ 2), v62, (ρ 8), (ρ 9), v60] ds w)
  else
  vBin .string .add (ρ 7) (.string ⟨#[104, 101, 114, 101, 58, 10]⟩) fun v64 =>
  vLen (.slice 5) (ρ 1) fun v66 =>
  loopF [7, 8, 9, 65, 66, 67] [v64, (ρ 8), (ρ 9), (ρ 1), v66, (.int .i64 0)] ds w (F8L3 K)

def F8L1 (K : Value → World → Prop) (ρ : Env) (ds : List Nat) (w : World) (ag1 : List Value → List Nat → World → Prop) : Prop :=
  vBin (.int .i64) .lss (ρ 30) (ρ 29) fun v31 =>
  vBool v31 fun c_2 => if c_2 = true then
   (vIA (.slice 5) (ρ 28) (ρ 30) fun v33 =>
  vLd (.agg 5) v33 w fun v34 =>
  vAlloc Tryd.prog 23 w fun v11 w_2 =>
  vSt (some 5) v11 v34 w_2 fun w_3 =>
  vLd (.agg 5) v11 w_3 fun v36 =>
  CallK Tryd.prog 13 #[v36] w_3 fun v37 w_4 =>
  vExt v37 0 fun v38 =>
  vExt v37 1 fun v39 =>
  vBin (.int .i64) .eql v39 (.int .i64 0) fun v41 =>
  vBool v41 fun g => if g = true then
  (vBin (.int .i64) .lss (ρ 30) (.int .i64 100) fun v44 =>
  vBool v44 fun c_3 => if c_3 = true then
   (vBin .string .add v38 (.string ⟨#[10]⟩) fun v48 =>
   vBin .string .add (ρ 7) v48 fun v49 =>
   vBin (.int .i64) .add (ρ 8) (.int .i64 1) fun v51 =>
   vBin (.int .i64) .add (ρ 30) (.int .i64 1) fun v52 =>
  ag1 [(ρ 1), (ρ 2), v49, v51, (ρ 9), (ρ 28), (ρ 29), v52] ds w_4)
  else
  vBin (.int .i64) .add (ρ 30) (.int .i64 1) fun v52_2 =>
  ag1 [(ρ 1), (ρ 2), (ρ 7), (ρ 8), (ρ 9), (ρ 28), (ρ 29), v52_2] ds w_4)
  else
  (vBin (.int .i64) .add (ρ 30) (.int .i64 1) fun v52_3 =>
  ag1 [(ρ 1), (ρ 2), (ρ 7), (ρ 8), (ρ 9), (ρ 28), (ρ 29), v52_3] ds w_4))
  else
  loopF [1, 2, 7, 8, 9, 14] [(ρ 1), (ρ 2), (ρ 7), (ρ 8), (ρ 9), (.int .i64 0)] ds w (F8L2 K)

/-- gatehouse/gatehouselaw02.IsaPlaces -/
def F8 (t0 : Value) (t1 : Value) (t2 : Value) (w : World) (K : Value → World → Prop) : Prop :=
  CallK Tryd.prog 10 #[] w fun v26 w =>
  vUn .not v26 fun v27 =>
  vBool v27 fun c => if c = true then
   (K (.bool false) w)
  else
  vLen (.slice 5) t0 fun v29 =>
  loopF [1, 2, 7, 8, 9, 28, 29, 30] [t1, t2, (.string ⟨#[]⟩), (.int .i64 0), (.int .i64 0), t0, v29, (.int .i64 0)] [] w (F8L1 K)

def tab8 : Tab := { sel := [(19, [7, 8, 9, 65, 66, 67]), (14, [1, 2, 7, 8, 9, 14]), (6, [1, 2, 7, 8, 9, 28, 29, 30])], plan := [], join := [(28, [8, 9, 19, 113])] }

theorem F8_eq (t0 : Value) (t1 : Value) (t2 : Value) (w : World) (K : Value → World → Prop) : enterV Tryd.prog tab8 Tryd.f8 [t0, t1, t2] w K = F8 t0 t1 t2 w K := by kernel_rfl

theorem F8_ok {t0 : Value} {t1 : Value} {t2 : Value} {w : World} {K : Value → World → Prop} (h : F8 t0 t1 t2 w K) : Ret Tryd.prog 8 #[t0, t1, t2] w K :=
  enter_sound (T := tab8) (args := [t0, t1, t2]) Tryd.func8 Tryd.call8 mixed (by kernel_rfl) (by rw [F8_eq]; exact h)

def F9J7 (K : Value → World → Prop) (ρ : Env) (ds : List Nat) (w : World) : Prop :=
  vLen .string (ρ 1) fun v144 =>
  vBin (.int .i64) .neq v144 (.int .i64 4) fun v145 =>
  vBool v145 fun g_2 => if g_2 = true then
  (leaveV ds w fun W => K (.bool true) W)
  else
  (vBin (.int .i64) .eql (ρ 15) (.int .i64 0) fun v148 =>
  vBool v148 fun g_3 => if g_3 = true then
  (vLen (.slice 1) (ρ 14) fun v151 =>
  vBin (.int .i64) .add (ρ 7) (.int .i64 1) fun v153 =>
  vBin (.int .i64) .eql v151 v153 fun v154 =>
  leaveV ds w fun W => K v154 W)
  else
  (leaveV ds w fun W => K (.bool false) W))

def F9J6 (K : Value → World → Prop) (ρ : Env) (ds : List Nat) (w : World) : Prop :=
  vBool (ρ 110) fun c_8 => if c_8 = true then
   (leaveV ds w fun W => K (.bool false) W)
  else
  vBin .string .add (ρ 5) (ρ 1) fun v114 =>
  CallK Tryd.prog 23 #[v114] w fun v115 w_8 =>
  vExt v115 0 fun v116 =>
  vExt v115 1 fun v117 =>
  CallK Tryd.prog 22 #[(ρ 1)] w_8 fun v120 w_9 =>
  vExt v120 0 fun v121 =>
  vExt v120 1 fun v122 =>
  vAlloc Tryd.prog 23 w_9 fun v22 w_10 =>
  vSt (some 5) v22 v121 w_10 fun w_11 =>
  joinF [1, 7, 14, 15] (fun J7 =>
  vLen .string (ρ 1) fun v124 =>
  vBin (.int .i64) .eql v124 (.int .i64 4) fun v125 =>
  vBool v125 fun g_2 => if g_2 = true then
  (vUn .not v122 fun v128 =>
  vBool v128 fun g_3 => if g_3 = true then
  (vBin (.int .i64) .eql v117 (.int .i64 12) fun v137 =>
  vBool v137 fun g_4 => if g_4 = true then
  (vLen (.slice 1) v116 fun v140 =>
  vBin (.int .i64) .eql v140 (.int .i64 0) fun v141 =>
  leaveV ds w_11 fun W => K v141 W)
  else
  (leaveV ds w_11 fun W => K (.bool false) W))
  else
  (vLen .string (ρ 1) fun v132 =>
  vBin (.int .i64) .rem v132 (.int .i64 4) fun v133 =>
  vBin (.int .i64) .neq v133 (.int .i64 0) fun v134 =>
  vBool v134 fun c_9 => if c_9 = true then
   (vBin (.int .i64) .eql v117 (.int .i64 12) fun v137_2 =>
   vBool v137_2 fun g_5 => if g_5 = true then
   (vLen (.slice 1) v116 fun v140_2 =>
   vBin (.int .i64) .eql v140_2 (.int .i64 0) fun v141_2 =>
   leaveV ds w_11 fun W => K v141_2 W)
   else
   (leaveV ds w_11 fun W => K (.bool false) W))
  else
  J7 [(ρ 1), (ρ 7), v116, v117] ds w_11))
  else
  (vLen .string (ρ 1) fun v132_2 =>
  vBin (.int .i64) .rem v132_2 (.int .i64 4) fun v133_2 =>
  vBin (.int .i64) .neq v133_2 (.int .i64 0) fun v134_2 =>
  vBool v134_2 fun c_10 => if c_10 = true then
   (vBin (.int .i64) .eql v117 (.int .i64 12) fun v137_3 =>
   vBool v137_3 fun g_6 => if g_6 = true then
   (vLen (.slice 1) v116 fun v140_3 =>
   vBin (.int .i64) .eql v140_3 (.int .i64 0) fun v141_3 =>
   leaveV ds w_11 fun W => K v141_3 W)
   else
   (leaveV ds w_11 fun W => K (.bool false) W))
  else
  J7 [(ρ 1), (ρ 7), v116, v117] ds w_11))
  (F9J7 K)

def F9L2 (K : Value → World → Prop) (ρ : Env) (ds : List Nat) (w : World) (ag2 : List Value → List Nat → World → Prop) : Prop :=
  vBin (.int .i64) .lss (ρ 76) (ρ 75) fun v77 =>
  vBool v77 fun c_6 => if c_6 = true then
   (vIA (.slice 1) (ρ 74) (ρ 76) fun v79 =>
  vLd .one v79 w fun v80 =>
  vBin (.int .i64) .gtr (ρ 76) (.int .i64 0) fun v82 =>
  vBool v82 fun c_7 => if c_7 = true then
   (vBin .string .add (ρ 16) (.string ⟨#[10]⟩) fun v84 =>
   vBin .string .add v84 v80 fun v87 =>
  vBin (.int .i64) .add (ρ 76) (.int .i64 1) fun v88 =>
  ag2 [(ρ 1), (ρ 5), (ρ 6), (ρ 7), v87, (ρ 74), (ρ 75), v88] ds w)
  else
  vBin .string .add (ρ 16) v80 fun v87_2 =>
  vBin (.int .i64) .add (ρ 76) (.int .i64 1) fun v88_2 =>
  ag2 [(ρ 1), (ρ 5), (ρ 6), (ρ 7), v87_2, (ρ 74), (ρ 75), v88_2] ds w)
  else
  CallK Tryd.prog 19 #[(ρ 16)] w fun v91 w_7 =>
  vExt v91 0 fun v92 =>
  vExt v91 1 fun v93 =>
  vExt v91 2 fun v94 =>
  joinF [1, 5, 7, 110] (fun J6 =>
  vBin .string .neq (ρ 16) (ρ 6) fun v97 =>
  vBool v97 fun g_2 => if g_2 = true then
  (J6 [(ρ 1), (ρ 5), (ρ 7), (.bool true)] ds w_7)
  else
  (vBin .string .neq v92 (ρ 5) fun v101 =>
  vBool v101 fun g_3 => if g_3 = true then
  (J6 [(ρ 1), (ρ 5), (ρ 7), (.bool true)] ds w_7)
  else
  (vBin (.int .i64) .neq v93 (.int .i64 0) fun v105 =>
  vBool v105 fun g_4 => if g_4 = true then
  (J6 [(ρ 1), (ρ 5), (ρ 7), (.bool true)] ds w_7)
  else
  (vBin (.int .i64) .neq v94 (.int .i64 0) fun v109 =>
  J6 [(ρ 1), (ρ 5), (ρ 7), v109] ds w_7))))
  (F9J6 K)

def F9J3 (K : Value → World → Prop) (ρ : Env) (ds : List Nat) (w : World) : Prop :=
  vBool (ρ 73) fun c_5 => if c_5 = true then
   (leaveV ds w fun W => K (.bool false) W)
  else
  vLen (.slice 1) (ρ 14) fun v75 =>
  loopF [1, 5, 6, 7, 16, 74, 75, 76] [(ρ 1), (ρ 5), (ρ 6), (ρ 7), (.string ⟨#[]⟩), (ρ 14), v75, (.int .i64 0)] ds w (F9L2 K)

def F9L1 (K : Value → World → Prop) (ρ : Env) (ds : List Nat) (w : World) (ag1 : List Value → List Nat → World → Prop) : Prop :=
  vBin (.int .i64) .lss (ρ 28) (ρ 27) fun v29 =>
  vBool v29 fun c_2 => if c_2 = true then
   (vIA (.slice 5) (ρ 26) (ρ 28) fun v30 =>
  vLd (.agg 5) v30 w fun v31 =>
  vAlloc Tryd.prog 23 w fun v9 w_2 =>
  vSt (some 5) v9 v31 w_2 fun w_3 =>
  vLd (.agg 5) v9 w_3 fun v33 =>
  CallK Tryd.prog 12 #[v33] w_3 fun v34 w_4 =>
  vExt v34 0 fun v35 =>
  vExt v34 1 fun v36 =>
  vBin (.int .i64) .neq v36 (.int .i64 0) fun v38 =>
  vBool v38 fun g => if g = true then
  (vBin (.int .i64) .add (ρ 28) (.int .i64 1) fun v60 =>
  ag1 [(ρ 1), (ρ 5), (ρ 6), (ρ 7), (ρ 26), (ρ 27), v60] ds w_4)
  else
  (vBin (.int .i64) .geq (ρ 7) (.int .i64 200) fun v41 =>
  vBool v41 fun c_3 => if c_3 = true then
   (vBin (.int .i64) .add (ρ 28) (.int .i64 1) fun v60_2 =>
  ag1 [(ρ 1), (ρ 5), (ρ 6), (ρ 7), (ρ 26), (ρ 27), v60_2] ds w_4)
  else
  vLd (.agg 5) v9 w_4 fun v44 =>
  CallK Tryd.prog 13 #[v44] w_4 fun v45 w_5 =>
  vExt v45 0 fun v46 =>
  vExt v45 1 fun v47 =>
  vBin .string .add (ρ 5) v35 fun v50 =>
  vBin (.int .i64) .gtr (ρ 7) (.int .i64 0) fun v52 =>
  vBool v52 fun c_4 => if c_4 = true then
   (vBin .string .add (ρ 6) (.string ⟨#[10]⟩) fun v54 =>
   vBin .string .add v54 v46 fun v57 =>
  vBin (.int .i64) .add (ρ 7) (.int .i64 1) fun v59 =>
  vBin (.int .i64) .add (ρ 28) (.int .i64 1) fun v60_3 =>
  ag1 [(ρ 1), v50, v57, v59, (ρ 26), (ρ 27), v60_3] ds w_5)
  else
  vBin .string .add (ρ 6) v46 fun v57_2 =>
  vBin (.int .i64) .add (ρ 7) (.int .i64 1) fun v59_2 =>
  vBin (.int .i64) .add (ρ 28) (.int .i64 1) fun v60_4 =>
  ag1 [(ρ 1), v50, v57_2, v59_2, (ρ 26), (ρ 27), v60_4] ds w_5))
  else
  CallK Tryd.prog 23 #[(ρ 5)] w fun v63 w_6 =>
  vExt v63 0 fun v64 =>
  vExt v63 1 fun v65 =>
  joinF [1, 5, 6, 7, 14, 73] (fun J3 =>
  vBin (.int .i64) .neq v65 (.int .i64 0) fun v67 =>
  vBool v67 fun g_2 => if g_2 = true then
  (J3 [(ρ 1), (ρ 5), (ρ 6), (ρ 7), v64, (.bool true)] ds w_6)
  else
  (vLen (.slice 1) v64 fun v70 =>
  vBin (.int .i64) .neq v70 (ρ 7) fun v72 =>
  J3 [(ρ 1), (ρ 5), (ρ 6), (ρ 7), v64, v72] ds w_6))
  (F9J3 K)

/-- gatehouse/gatehouselaw02.IsaLists -/
def F9 (t0 : Value) (t1 : Value) (w : World) (K : Value → World → Prop) : Prop :=
  CallK Tryd.prog 10 #[] w fun v24 w =>
  vUn .not v24 fun v25 =>
  vBool v25 fun c => if c = true then
   (K (.bool false) w)
  else
  vLen (.slice 5) t0 fun v27 =>
  loopF [1, 5, 6, 7, 26, 27, 28] [t1, (.string ⟨#[]⟩), (.string ⟨#[]⟩), (.int .i64 0), t0, v27, (.int .i64 0)] [] w (F9L1 K)

def tab9 : Tab := { sel := [(22, [1, 5, 6, 7, 16, 74, 75, 76]), (6, [1, 5, 6, 7, 26, 27, 28])], plan := [], join := [(35, [1, 7, 14, 15]), (30, [1, 5, 7, 110]), (19, [1, 5, 6, 7, 14, 73])] }

theorem F9_eq (t0 : Value) (t1 : Value) (w : World) (K : Value → World → Prop) : enterV Tryd.prog tab9 Tryd.f9 [t0, t1] w K = F9 t0 t1 w K := by kernel_rfl

theorem F9_ok {t0 : Value} {t1 : Value} {w : World} {K : Value → World → Prop} (h : F9 t0 t1 w K) : Ret Tryd.prog 9 #[t0, t1] w K :=
  enter_sound (T := tab9) (args := [t0, t1]) Tryd.func9 Tryd.call9 mixed (by kernel_rfl) (by rw [F9_eq]; exact h)

/-- gatehouse/gatehouselaw02.lives -/
def F10 (w : World) (K : Value → World → Prop) : Prop :=
  vBuild Tryd.prog 23 [(0, (.int .i64 6)), (1, (.int .i64 1)), (2, (.int .i64 2)), (3, (.int .i64 15))] fun v9 =>
  CallK Tryd.prog 12 #[v9] w fun v10 w =>
  vExt v10 0 fun v11 =>
  vExt v10 1 fun v12 =>
  CallK Tryd.prog 19 #[(.string ⟨#[97, 103, 97, 105, 110, 58, 10, 97, 100, 100, 32, 114, 49, 32, 114, 49, 32, 114, 50, 10, 103, 111, 32, 97, 103, 97, 105, 110, 10]⟩)] w fun v14 w_2 =>
  vExt v14 0 fun v15 =>
  vExt v14 1 fun v16 =>
  vExt v14 2 fun v17 =>
  vBuild Tryd.prog 23 [(0, (.int .i64 23)), (1, (.int .i64 1)), (4, (.int .i64 (-2)))] fun v19 =>
  CallK Tryd.prog 13 #[v19] w_2 fun v20 w_3 =>
  vExt v20 0 fun v21 =>
  vExt v20 1 fun v22 =>
  vBin (.int .i64) .eql v12 (.int .i64 0) fun v24 =>
  vBool v24 fun g => if g = true then
  (vBin .string .eql v11 (.string ⟨#[6, 1, 2, 15]⟩) fun v27 =>
  vBool v27 fun g_2 => if g_2 = true then
  (vBin (.int .i64) .eql v17 (.int .i64 0) fun v31 =>
  vBool v31 fun g_3 => if g_3 = true then
  (vBin (.int .i64) .eql v16 (.int .i64 0) fun v35 =>
  vBool v35 fun g_4 => if g_4 = true then
  (vBin .string .eql v15 (.string ⟨#[6, 1, 1, 2, 22, 0, 254, 255]⟩) fun v39 =>
  vBool v39 fun g_5 => if g_5 = true then
  (vBin (.int .i64) .eql v22 (.int .i64 0) fun v43 =>
  vBool v43 fun g_6 => if g_6 = true then
  (vBin .string .eql v21 (.string ⟨#[122, 101, 114, 111, 32, 114, 49, 32, 45, 50]⟩) fun v47 =>
  K v47 w_3)
  else
  (K (.bool false) w_3))
  else
  (K (.bool false) w_3))
  else
  (K (.bool false) w_3))
  else
  (K (.bool false) w_3))
  else
  (K (.bool false) w_3))
  else
  (K (.bool false) w_3)

def tab10 : Tab := { sel := [], plan := [], join := [] }

theorem F10_eq (w : World) (K : Value → World → Prop) : enterV Tryd.prog tab10 Tryd.f10 [] w K = F10 w K := by kernel_rfl

theorem F10_ok {w : World} {K : Value → World → Prop} (h : F10 w K) : Ret Tryd.prog 10 #[] w K :=
  enter_sound (T := tab10) (args := []) Tryd.func10 Tryd.call10 mixed (by kernel_rfl) (by rw [F10_eq]; exact h)

def F19L2 (K : Value → World → Prop) (ρ : Env) (ds : List Nat) (w : World) (ag2 : List Value → List Nat → World → Prop) : Prop :=
  vBin (.int .i64) .lss (ρ 54) (ρ 53) fun v55 =>
  vBool v55 fun c_5 => if c_5 = true then
   (vIA (.slice 7) (ρ 52) (ρ 54) fun v57 =>
  vLd (.agg 7) v57 w fun v58 =>
  vAlloc Tryd.prog 72 w fun v14 w_5 =>
  vSt (some 7) v14 v58 w_5 fun w_6 =>
  vFA (some 6) v14 fun v59 =>
  vLd .one v59 w_6 fun v60 =>
  vBin .string .neq v60 (.string ⟨#[]⟩) fun v61 =>
  vBool v61 fun c_6 => if c_6 = true then
   (vFA (some 6) v14 fun v63 =>
   vLd .one v63 w_6 fun v64 =>
   vLookup Tryd.prog 68 (ρ 6) v64 false w_6 fun v65 =>
   vBin (.int .i64) .sub v65 (ρ 54) fun v67 =>
   vBin (.int .i64) .sub v67 (.int .i64 1) fun v68 =>
   vFA (some 1) v14 fun v69 =>
   vFA (some 4) v69 fun v70 =>
   vSt (some 1) v70 v68 w_6 fun w_7 =>
   vFA (some 1) v14 fun v72 =>
  vLd (.agg 5) v72 w_7 fun v73 =>
  CallK Tryd.prog 12 #[v73] w_7 fun v74 w_8 =>
  vExt v74 0 fun v75 =>
  vExt v74 1 fun v76 =>
  vBin .string .add (ρ 12) v75 fun v79 =>
  vBin (.int .i64) .add (ρ 54) (.int .i64 1) fun v80 =>
  ag2 [(ρ 6), v79, (ρ 52), (ρ 53), v80] ds w_8)
  else
  vFA (some 1) v14 fun v72_2 =>
  vLd (.agg 5) v72_2 w_6 fun v73_2 =>
  CallK Tryd.prog 12 #[v73_2] w_6 fun v74_2 w_9 =>
  vExt v74_2 0 fun v75_2 =>
  vExt v74_2 1 fun v76_2 =>
  vBin .string .add (ρ 12) v75_2 fun v79_2 =>
  vBin (.int .i64) .add (ρ 54) (.int .i64 1) fun v80_2 =>
  ag2 [(ρ 6), v79_2, (ρ 52), (ρ 53), v80_2] ds w_9)
  else
  leaveV ds w fun W => K (.tuple #[(ρ 12), (.int .i64 0), (.int .i64 0)]) W

def F19L1 (K : Value → World → Prop) (ρ : Env) (ds : List Nat) (w : World) (ag1 : List Value → List Nat → World → Prop) : Prop :=
  vBin (.int .i64) .lss (ρ 31) (ρ 30) fun v32 =>
  vBool v32 fun c_3 => if c_3 = true then
   (vIA (.slice 7) (ρ 29) (ρ 31) fun v33 =>
  vLd (.agg 7) v33 w fun v34 =>
  vAlloc Tryd.prog 72 w fun v9 w_3 =>
  vSt (some 7) v9 v34 w_3 fun w_4 =>
  vFA (some 6) v9 fun v37 =>
  vLd .one v37 w_4 fun v38 =>
  vLookup Tryd.prog 68 (ρ 6) v38 true w_4 fun v39 =>
  vExt v39 0 fun v40 =>
  vExt v39 1 fun v41 =>
  vUn .not v41 fun v43 =>
  vBool v43 fun g => if g = true then
  (vFA (some 6) v9 fun v45 =>
  vLd .one v45 w_4 fun v46 =>
  vBin .string .neq v46 (.string ⟨#[]⟩) fun v47 =>
  vBool v47 fun c_4 => if c_4 = true then
   (drawF w_4 fun S =>
   vFA (some 0) v9 fun v49 =>
   vLdS S .one v49 fun v50 =>
   leaveV ds w_4.drew fun W => K (.tuple #[(.string ⟨#[]⟩), v50, (.int .i64 4)]) W)
  else
  vBin (.int .i64) .add (ρ 31) (.int .i64 1) fun v51 =>
  ag1 [(ρ 5), (ρ 6), (ρ 29), (ρ 30), v51] ds w_4)
  else
  (vBin (.int .i64) .add (ρ 31) (.int .i64 1) fun v51_2 =>
  ag1 [(ρ 5), (ρ 6), (ρ 29), (ρ 30), v51_2] ds w_4))
  else
  vLen (.slice 7) (ρ 5) fun v53 =>
  loopF [6, 12, 52, 53, 54] [(ρ 6), (.string ⟨#[]⟩), (ρ 5), v53, (.int .i64 0)] ds w (F19L2 K)

/-- gatehouse/isa.Build -/
def F19 (t0 : Value) (w : World) (K : Value → World → Prop) : Prop :=
  CallK Tryd.prog 40 #[t0] w fun v18 w =>
  vBin (.int .i64) .gtr v18 (.int .i64 1024) fun v19 =>
  vBool v19 fun c => if c = true then
   (K (.tuple #[(.string ⟨#[]⟩), (.int .i64 0), (.int .i64 7)]) w)
  else
  CallK Tryd.prog 41 #[t0] w fun v22 w_2 =>
  vExt v22 0 fun v23 =>
  vExt v22 1 fun v24 =>
  vExt v22 2 fun v25 =>
  vBin (.int .i64) .gtr v25 (.int .i64 0) fun v27 =>
  vBool v27 fun c_2 => if c_2 = true then
   (K (.tuple #[(.string ⟨#[]⟩), v25, (.int .i64 2)]) w_2)
  else
  vLen (.slice 7) v23 fun v30 =>
  loopF [5, 6, 29, 30, 31] [v23, v24, v23, v30, (.int .i64 0)] [] w_2 (F19L1 K)

def tab19 : Tab := { sel := [(15, [6, 12, 52, 53, 54]), (7, [5, 6, 29, 30, 31])], plan := [(11, (.take 0 (.take 1 (.take 2 (.take 3 (.take 4 .done))))))], join := [] }

theorem F19_eq (t0 : Value) (w : World) (K : Value → World → Prop) : enterV Tryd.prog tab19 Tryd.f19 [t0] w K = F19 t0 w K := by kernel_rfl

theorem F19_ok {t0 : Value} {w : World} {K : Value → World → Prop} (h : F19 t0 w K) : Ret Tryd.prog 19 #[t0] w K :=
  enter_sound (T := tab19) (args := [t0]) Tryd.func19 Tryd.call19 mixed (by kernel_rfl) (by rw [F19_eq]; exact h)

def F20J5 (K : Value → World → Prop) (ag2 : List Value → List Nat → World → Prop) (ρ : Env) (ds : List Nat) (w : World) : Prop :=
  vBool (ρ 91) fun c_8 => if c_8 = true then
   (vBin (.int .i64) .add (ρ 14) (.int .i64 1) fun v93 =>
   leaveV ds w fun W => K (.tuple #[(.string ⟨#[]⟩), v93, (.int .i64 2)]) W)
  else
  vBuildSlice Tryd.prog 43 1 [(0, (ρ 16))] w fun v96 w_2 =>
   vAppend Tryd.prog 43 43 (ρ 11) v96 w_2 fun v97 w_3 =>
   vLen (.slice 5) (ρ 9) fun v100 =>
   vBuildSlice Tryd.prog 55 1 [(0, v100)] w_3 fun v101 w_4 =>
   vAppend Tryd.prog 55 55 (ρ 12) v101 w_4 fun v102 w_5 =>
   vBin (.int .i64) .add (ρ 55) (.int .i64 1) fun v126_2 =>
  ag2 [(ρ 9), (ρ 10), v97, v102, (ρ 13), (ρ 53), (ρ 54), v126_2] ds w_5

def F20L3 (K : Value → World → Prop) (ag2 : List Value → List Nat → World → Prop) (ρ : Env) (ds : List Nat) (w : World) (ag3 : List Value → List Nat → World → Prop) : Prop :=
  vBin (.int .i64) .lss (ρ 75) (ρ 74) fun v76 =>
  vBool v76 fun c_7 => if c_7 = true then
   (vIA (.slice 1) (ρ 73) (ρ 75) fun v77 =>
  vLd .one v77 w fun v78 =>
  vBool (ρ 17) fun g_2 => if g_2 = true then
  (vBin (.int .i64) .add (ρ 75) (.int .i64 1) fun v85 =>
  ag3 [(ρ 9), (ρ 10), (ρ 11), (ρ 12), (ρ 13), (ρ 14), (ρ 16), (.bool true), (ρ 53), (ρ 54), (ρ 55), (ρ 73), (ρ 74), v85] ds w)
  else
  (vBin .string .eql v78 (ρ 16) fun v83 =>
  vBin (.int .i64) .add (ρ 75) (.int .i64 1) fun v85_2 =>
  ag3 [(ρ 9), (ρ 10), (ρ 11), (ρ 12), (ρ 13), (ρ 14), (ρ 16), v83, (ρ 53), (ρ 54), (ρ 55), (ρ 73), (ρ 74), v85_2] ds w))
  else
  joinF [9, 10, 11, 12, 13, 14, 16, 53, 54, 55, 91] (fun J5 =>
   vBool (ρ 17) fun g_3 => if g_3 = true then
   (J5 [(ρ 9), (ρ 10), (ρ 11), (ρ 12), (ρ 13), (ρ 14), (ρ 16), (ρ 53), (ρ 54), (ρ 55), (.bool true)] ds w)
   else
   (CallK Tryd.prog 39 #[(ρ 16)] w fun v89 w_2 =>
   vUn .not v89 fun v90 =>
   J5 [(ρ 9), (ρ 10), (ρ 11), (ρ 12), (ρ 13), (ρ 14), (ρ 16), (ρ 53), (ρ 54), (ρ 55), v90] ds w_2))
   (F20J5 K ag2)

def F20J8 (ag5 : List Value → List Nat → World → Prop) (ρ : Env) (ds : List Nat) (w : World) : Prop :=
  vBool (ρ 155) fun c_11 => if c_11 = true then
   (vIA (.slice 1) (ρ 12) (ρ 28) fun v158 =>
   vLd .one v158 w fun v159 =>
   vBin (.int .i64) .sub v159 (ρ 25) fun v161 =>
   vBin (.int .i64) .sub v161 (.int .i64 1) fun v162 =>
   vFA (some 4) (ρ 26) fun v163 =>
   vSt (some 1) v163 v162 w fun w_14 =>
   vBin (.int .i64) .add (ρ 141) (.int .i64 1) fun v164 =>
  ag5 [(ρ 10), (ρ 11), (ρ 12), (ρ 13), (ρ 23), (ρ 24), (ρ 25), (ρ 26), (.bool true), (ρ 127), (ρ 128), (ρ 129), (ρ 139), (ρ 140), v164] ds w_14)
  else
  vBin (.int .i64) .add (ρ 141) (.int .i64 1) fun v164_2 =>
  ag5 [(ρ 10), (ρ 11), (ρ 12), (ρ 13), (ρ 23), (ρ 24), (ρ 25), (ρ 26), (ρ 27), (ρ 127), (ρ 128), (ρ 129), (ρ 139), (ρ 140), v164_2] ds w

def F20J10 (J9 : List Value → List Nat → World → Prop) (ρ : Env) (ds : List Nat) (w : World) : Prop :=
  vBool (ρ 170) fun c_11 => if c_11 = true then
   (vIA (.slice 1) (ρ 13) (ρ 25) fun v173 =>
   vLd .one v173 w fun v174 =>
   J9 [(ρ 10), (ρ 11), (ρ 12), (ρ 13), (ρ 23), v174, (ρ 26), (ρ 127), (ρ 128), (ρ 129)] ds w)
  else
  J9 [(ρ 10), (ρ 11), (ρ 12), (ρ 13), (ρ 23), (ρ 24), (ρ 26), (ρ 127), (ρ 128), (ρ 129)] ds w

def F20J9 (ag4 : List Value → List Nat → World → Prop) (ρ : Env) (ds : List Nat) (w : World) : Prop :=
  vBin (.int .i64) .eql (ρ 24) (.int .i64 0) fun v176 =>
  vBool v176 fun c_11 => if c_11 = true then
   (vLd (.agg 5) (ρ 26) w fun v178 =>
   CallK Tryd.prog 15 #[v178] w fun v179 w_14 =>
   vBin .string .add (ρ 23) v179 fun v180 =>
   vBin (.int .i64) .add (ρ 129) (.int .i64 1) fun v181 =>
  ag4 [(ρ 10), (ρ 11), (ρ 12), (ρ 13), v180, (ρ 24), (ρ 127), (ρ 128), v181] ds w_14)
  else
  vBin (.int .i64) .add (ρ 129) (.int .i64 1) fun v181_2 =>
  ag4 [(ρ 10), (ρ 11), (ρ 12), (ρ 13), (ρ 23), (ρ 24), (ρ 127), (ρ 128), v181_2] ds w

def F20L5 (ag4 : List Value → List Nat → World → Prop) (ρ : Env) (ds : List Nat) (w : World) (ag5 : List Value → List Nat → World → Prop) : Prop :=
  vBin (.int .i64) .lss (ρ 141) (ρ 140) fun v142 =>
  vBool v142 fun c_10 => if c_10 = true then
   (vIA (.slice 1) (ρ 139) (ρ 141) fun v144 =>
  vLd .one v144 w fun v145 =>
  joinF [10, 11, 12, 13, 23, 24, 25, 26, 27, 28, 127, 128, 129, 139, 140, 141, 155] (fun J8 =>
  vUn .not (ρ 27) fun v147 =>
  vBool v147 fun g_4 => if g_4 = true then
  (vIA (.slice 1) (ρ 10) (ρ 25) fun v152 =>
  vLd .one v152 w fun v153 =>
  vBin .string .eql v145 v153 fun v154 =>
  J8 [(ρ 10), (ρ 11), (ρ 12), (ρ 13), (ρ 23), (ρ 24), (ρ 25), (ρ 26), (ρ 27), (ρ 141), (ρ 127), (ρ 128), (ρ 129), (ρ 139), (ρ 140), (ρ 141), v154] ds w)
  else
  (J8 [(ρ 10), (ρ 11), (ρ 12), (ρ 13), (ρ 23), (ρ 24), (ρ 25), (ρ 26), (ρ 27), (ρ 141), (ρ 127), (ρ 128), (ρ 129), (ρ 139), (ρ 140), (ρ 141), (.bool false)] ds w))
  (F20J8 ag5))
  else
  joinF [10, 11, 12, 13, 23, 24, 26, 127, 128, 129] (fun J9 =>
  joinF [10, 11, 12, 13, 23, 24, 25, 26, 127, 128, 129, 170] (fun J10 =>
  vUn .not (ρ 27) fun v166 =>
  vBool v166 fun g_5 => if g_5 = true then
  (vBin (.int .i64) .eql (ρ 24) (.int .i64 0) fun v169 =>
  J10 [(ρ 10), (ρ 11), (ρ 12), (ρ 13), (ρ 23), (ρ 24), (ρ 25), (ρ 26), (ρ 127), (ρ 128), (ρ 129), v169] ds w)
  else
  (J10 [(ρ 10), (ρ 11), (ρ 12), (ρ 13), (ρ 23), (ρ 24), (ρ 25), (ρ 26), (ρ 127), (ρ 128), (ρ 129), (.bool false)] ds w))
  (F20J10 J9))
  (F20J9 ag4)

def F20L4 (K : Value → World → Prop) (ρ : Env) (ds : List Nat) (w : World) (ag4 : List Value → List Nat → World → Prop) : Prop :=
  vBin (.int .i64) .lss (ρ 129) (ρ 128) fun v130 =>
  vBool v130 fun c_9 => if c_9 = true then
   (vIA (.slice 5) (ρ 127) (ρ 129) fun v132 =>
  vLd (.agg 5) v132 w fun v133 =>
  vAlloc Tryd.prog 23 w fun v26 w_12 =>
  vSt (some 5) v26 v133 w_12 fun w_13 =>
  vIA (.slice 1) (ρ 10) (ρ 129) fun v136 =>
  vLd .one v136 w_13 fun v137 =>
  vBin .string .eql v137 (.string ⟨#[]⟩) fun v138 =>
  vLen (.slice 1) (ρ 11) fun v140 =>
  loopF [10, 11, 12, 13, 23, 24, 25, 26, 27, 127, 128, 129, 139, 140, 141] [(ρ 10), (ρ 11), (ρ 12), (ρ 13), (ρ 23), (ρ 24), (ρ 129), v26, v138, (ρ 127), (ρ 128), (ρ 129), (ρ 11), v140, (.int .i64 0)] ds w_13 (F20L5 ag4))
  else
  vBin (.int .i64) .gtr (ρ 24) (.int .i64 0) fun v183 =>
  vBool v183 fun c_11 => if c_11 = true then
   (leaveV ds w fun W => K (.tuple #[(.string ⟨#[]⟩), (ρ 24), (.int .i64 4)]) W)
  else
  leaveV ds w fun W => K (.tuple #[(ρ 23), (.int .i64 0), (.int .i64 0)]) W

def F20L2 (K : Value → World → Prop) (ρ : Env) (ds : List Nat) (w : World) (ag2 : List Value → List Nat → World → Prop) : Prop :=
  vBin (.int .i64) .lss (ρ 55) (ρ 54) fun v56 =>
  vBool v56 fun c_4 => if c_4 = true then
   (vIA (.slice 1) (ρ 53) (ρ 55) fun v58 =>
  vLd .one v58 w fun v59 =>
  vBin .string .eql v59 (.string ⟨#[]⟩) fun v61 =>
  vBool v61 fun c_5 => if c_5 = true then
   (vBin (.int .i64) .add (ρ 55) (.int .i64 1) fun v126 =>
  ag2 [(ρ 9), (ρ 10), (ρ 11), (ρ 12), (ρ 13), (ρ 53), (ρ 54), v126] ds w)
  else
  vLen .string v59 fun v64 =>
  vBin (.int .i64) .sub v64 (.int .i64 1) fun v65 =>
  vIx .string .bad v59 v65 fun v66 =>
  vBin (.int .u8) .eql v66 (.int .u8 58) fun v67 =>
  vBool v67 fun c_6 => if c_6 = true then
   (vLen .string v59 fun v70 =>
   vBin (.int .i64) .sub v70 (.int .i64 1) fun v71 =>
   vSlice .string v59 none (some v71) fun v72 =>
   vLen (.slice 1) (ρ 11) fun v74 =>
   loopF [9, 10, 11, 12, 13, 14, 16, 17, 53, 54, 55, 73, 74, 75] [(ρ 9), (ρ 10), (ρ 11), (ρ 12), (ρ 13), (ρ 55), v72, (.bool false), (ρ 53), (ρ 54), (ρ 55), (ρ 11), v74, (.int .i64 0)] ds w (F20L3 K ag2))
  else
  CallK Tryd.prog 18 #[v59] w fun v105 w_3 =>
  vExt v105 0 fun v106 =>
  vExt v105 1 fun v107 =>
  vExt v105 2 fun v108 =>
  vAlloc Tryd.prog 23 w_3 fun v20 w_4 =>
  vSt (some 5) v20 v106 w_4 fun w_5 =>
  vUn .not v108 fun v110 =>
  vBool v110 fun c_8 => if c_8 = true then
   (vBin (.int .i64) .add (ρ 55) (.int .i64 1) fun v112 =>
   leaveV ds w_5 fun W => K (.tuple #[(.string ⟨#[]⟩), v112, (.int .i64 2)]) W)
  else
  vLd (.agg 5) v20 w_5 fun v114 =>
  vBuildSlice Tryd.prog 40 1 [(0, v114)] w_5 fun v115 w_6 =>
  vAppend Tryd.prog 40 40 (ρ 9) v115 w_6 fun v116 w_7 =>
  vBuildSlice Tryd.prog 43 1 [(0, v107)] w_7 fun v119 w_8 =>
  vAppend Tryd.prog 43 43 (ρ 10) v119 w_8 fun v120 w_9 =>
  vBin (.int .i64) .add (ρ 55) (.int .i64 1) fun v123 =>
  vBuildSlice Tryd.prog 55 1 [(0, v123)] w_9 fun v124 w_10 =>
  vAppend Tryd.prog 55 55 (ρ 13) v124 w_10 fun v125 w_11 =>
  vBin (.int .i64) .add (ρ 55) (.int .i64 1) fun v126_2 =>
  ag2 [v116, v120, (ρ 11), (ρ 12), v125, (ρ 53), (ρ 54), v126_2] ds w_11)
  else
  vLen (.slice 5) (ρ 9) fun v128 =>
  loopF [10, 11, 12, 13, 23, 24, 127, 128, 129] [(ρ 10), (ρ 11), (ρ 12), (ρ 13), (.string ⟨#[]⟩), (.int .i64 0), (ρ 9), v128, (.int .i64 0)] ds w (F20L4 K)

def F20L1 (K : Value → World → Prop) (ρ : Env) (ds : List Nat) (w : World) (ag1 : List Value → List Nat → World → Prop) : Prop :=
  vBin (.int .i64) .lss (ρ 34) (ρ 33) fun v35 =>
  vBool v35 fun c => if c = true then
   (vIA (.slice 1) (ρ 32) (ρ 34) fun v36 =>
  vLd .one v36 w fun v37 =>
  vBin .string .neq v37 (.string ⟨#[]⟩) fun v39 =>
  vBool v39 fun g => if g = true then
  (vLen .string v37 fun v43 =>
  vBin (.int .i64) .sub v43 (.int .i64 1) fun v44 =>
  vIx .string .bad v37 v44 fun v45 =>
  vBin (.int .u8) .neq v45 (.int .u8 58) fun v46 =>
  vBool v46 fun c_2 => if c_2 = true then
   (vBin (.int .i64) .add (ρ 6) (.int .i64 1) fun v49 =>
   vBin (.int .i64) .add (ρ 34) (.int .i64 1) fun v50 =>
  ag1 [(ρ 5), v49, (ρ 32), (ρ 33), v50] ds w)
  else
  vBin (.int .i64) .add (ρ 34) (.int .i64 1) fun v50_2 =>
  ag1 [(ρ 5), (ρ 6), (ρ 32), (ρ 33), v50_2] ds w)
  else
  (vBin (.int .i64) .add (ρ 34) (.int .i64 1) fun v50_3 =>
  ag1 [(ρ 5), (ρ 6), (ρ 32), (ρ 33), v50_3] ds w))
  else
  vBin (.int .i64) .gtr (ρ 6) (.int .i64 1024) fun v52 =>
  vBool v52 fun c_3 => if c_3 = true then
   (leaveV ds w fun W => K (.tuple #[(.string ⟨#[]⟩), (.int .i64 0), (.int .i64 7)]) W)
  else
  vLen (.slice 1) (ρ 5) fun v54 =>
  loopF [9, 10, 11, 12, 13, 53, 54, 55] [(.slice none 0 0), (.slice none 0 0), (.slice none 0 0), (.slice none 0 0), (.slice none 0 0), (ρ 5), v54, (.int .i64 0)] ds w (F20L2 K)

/-- gatehouse/gatehouseref02.Build -/
def F20 (t0 : Value) (w : World) (K : Value → World → Prop) : Prop :=
  CallK Tryd.prog 36 #[t0, (.int .u8 10)] w fun v31 w =>
  vLen (.slice 1) v31 fun v33 =>
  loopF [5, 6, 32, 33, 34] [v31, (.int .i64 0), v31, v33, (.int .i64 0)] [] w (F20L1 K)

def tab20 : Tab := { sel := [(22, [9, 10, 11, 12, 13, 14, 16, 17, 53, 54, 55, 73, 74, 75]), (44, [10, 11, 12, 13, 23, 24, 25, 26, 27, 127, 128, 129, 139, 140, 141]), (40, [10, 11, 12, 13, 23, 24, 127, 128, 129]), (15, [9, 10, 11, 12, 13, 53, 54, 55]), (4, [5, 6, 32, 33, 34])], plan := [], join := [(27, [9, 10, 11, 12, 13, 14, 16, 53, 54, 55, 91]), (47, [10, 11, 12, 13, 23, 24, 25, 26, 27, 28, 127, 128, 129, 139, 140, 141, 155]), (52, [10, 11, 12, 13, 23, 24, 26, 127, 128, 129]), (51, [10, 11, 12, 13, 23, 24, 25, 26, 127, 128, 129, 170])] }

theorem F20_eq (t0 : Value) (w : World) (K : Value → World → Prop) : enterV Tryd.prog tab20 Tryd.f20 [t0] w K = F20 t0 w K := by kernel_rfl

theorem F20_ok {t0 : Value} {w : World} {K : Value → World → Prop} (h : F20 t0 w K) : Ret Tryd.prog 20 #[t0] w K :=
  enter_sound (T := tab20) (args := [t0]) Tryd.func20 Tryd.call20 mixed (by kernel_rfl) (by rw [F20_eq]; exact h)

def F23L1 (K : Value → World → Prop) (ρ : Env) (ds : List Nat) (w : World) (ag1 : List Value → List Nat → World → Prop) : Prop :=
  vLen .string (ρ 0) fun v16 =>
  vBin (.int .i64) .lss (ρ 5) v16 fun v17 =>
  vBool v17 fun c_2 => if c_2 = true then
   (vBin (.int .i64) .add (ρ 5) (.int .i64 4) fun v24 =>
  vSlice .string (ρ 0) (some (ρ 5)) (some v24) fun v25 =>
  CallK Tryd.prog 21 #[v25] w fun v26 w =>
  vExt v26 0 fun v27 =>
  vExt v26 1 fun v28 =>
  vAlloc Tryd.prog 23 w fun v6 w_2 =>
  vSt (some 5) v6 v27 w_2 fun w_3 =>
  vBin (.int .i64) .neq v28 (.int .i64 0) fun v30 =>
  vBool v30 fun c_3 => if c_3 = true then
   (leaveV ds w_3 fun W => K (.tuple #[(.slice none 0 0), v28]) W)
  else
  vLd (.agg 5) v6 w_3 fun v33 =>
  CallK Tryd.prog 13 #[v33] w_3 fun v34 w_4 =>
  vExt v34 0 fun v35 =>
  vExt v34 1 fun v36 =>
  vBuildSlice Tryd.prog 43 1 [(0, v35)] w_4 fun v39 w_5 =>
  vAppend Tryd.prog 43 43 (ρ 4) v39 w_5 fun v40 w_6 =>
  vBin (.int .i64) .add (ρ 5) (.int .i64 4) fun v19 =>
  ag1 [(ρ 0), v40, v19] ds w_6)
  else
  leaveV ds w fun W => K (.tuple #[(ρ 4), (.int .i64 0)]) W

/-- gatehouse/isa.List -/
def F23 (t0 : Value) (w : World) (K : Value → World → Prop) : Prop :=
  vLen .string t0 fun v11 =>
  vBin (.int .i64) .rem v11 (.int .i64 4) fun v12 =>
  vBin (.int .i64) .neq v12 (.int .i64 0) fun v13 =>
  vBool v13 fun c => if c = true then
   (K (.tuple #[(.slice none 0 0), (.int .i64 12)]) w)
  else
  loopF [0, 4, 5] [t0, (.slice none 0 0), (.int .i64 0)] [] w (F23L1 K)

def tab23 : Tab := { sel := [(5, [0, 4, 5])], plan := [], join := [] }

theorem F23_eq (t0 : Value) (w : World) (K : Value → World → Prop) : enterV Tryd.prog tab23 Tryd.f23 [t0] w K = F23 t0 w K := by kernel_rfl

theorem F23_ok {t0 : Value} {w : World} {K : Value → World → Prop} (h : F23 t0 w K) : Ret Tryd.prog 23 #[t0] w K :=
  enter_sound (T := tab23) (args := [t0]) Tryd.func23 Tryd.call23 mixed (by kernel_rfl) (by rw [F23_eq]; exact h)

def F41J3 (K : Value → World → Prop) (ag1 : List Value → List Nat → World → Prop) (ρ : Env) (ds : List Nat) (w : World) : Prop :=
  vBool (ρ 86) fun c_6 => if c_6 = true then
   (vBin (.int .i64) .add (ρ 7) (.int .i64 1) fun v88 =>
   leaveV ds w fun W => K (.tuple #[(.slice none 0 0), (.map none), v88]) W)
  else
  vBin (.int .i64) .add (ρ 7) (.int .i64 1) fun v91 =>
  vLd (.agg 5) (ρ 15) w fun v92 =>
  vBuild Tryd.prog 72 [(0, v91), (1, v92), (2, (ρ 16))] fun v94 =>
  vBuildSlice Tryd.prog 67 1 [(0, v94)] w fun v95 w_14 =>
  vAppend Tryd.prog 67 67 (ρ 5) v95 w_14 fun v96 w_15 =>
  vBin (.int .i64) .add (ρ 22) (.int .i64 1) fun v97_4 =>
  ag1 [v96, (ρ 6), (ρ 20), (ρ 21), v97_4] ds w_15

def F41L1 (K : Value → World → Prop) (ρ : Env) (ds : List Nat) (w : World) (ag1 : List Value → List Nat → World → Prop) : Prop :=
  vBin (.int .i64) .lss (ρ 22) (ρ 21) fun v23 =>
  vBool v23 fun c => if c = true then
   (vIA (.slice 1) (ρ 20) (ρ 22) fun v25 =>
  vLd .one v25 w fun v26 =>
  vBin .string .eql v26 (.string ⟨#[]⟩) fun v28 =>
  vBool v28 fun c_2 => if c_2 = true then
   (vBin (.int .i64) .add (ρ 22) (.int .i64 1) fun v97 =>
  ag1 [(ρ 5), (ρ 6), (ρ 20), (ρ 21), v97] ds w)
  else
  CallK Tryd.prog 54 #[v26, (.string ⟨#[58]⟩)] w fun v31 w_3 =>
  vExt v31 0 fun v32 =>
  vExt v31 1 fun v33 =>
  vBool v33 fun c_3 => if c_3 = true then
   (vLookup Tryd.prog 68 (ρ 6) v32 true w_3 fun v38 =>
   vExt v38 0 fun v39 =>
   vExt v38 1 fun v40 =>
   vBool v40 fun g => if g = true then
   (vBin (.int .i64) .add (ρ 22) (.int .i64 1) fun v48 =>
   leaveV ds w_3 fun W => K (.tuple #[(.slice none 0 0), (.map none), v48]) W)
   else
   (CallK Tryd.prog 55 #[v32] w_3 fun v44 w_4 =>
   vUn .not v44 fun v45 =>
   vBool v45 fun c_4 => if c_4 = true then
    (vBin (.int .i64) .add (ρ 22) (.int .i64 1) fun v48_2 =>
    leaveV ds w_4 fun W => K (.tuple #[(.slice none 0 0), (.map none), v48_2]) W)
   else
   vLen (.slice 7) (ρ 5) fun v52 =>
   vMapUpd Tryd.prog 68 (ρ 6) v32 v52 w_4 fun w_5 =>
   vBin (.int .i64) .add (ρ 22) (.int .i64 1) fun v97_2 =>
  ag1 [(ρ 5), (ρ 6), (ρ 20), (ρ 21), v97_2] ds w_5))
  else
  CallK Tryd.prog 17 #[v26] w_3 fun v55 w_6 =>
  vExt v55 0 fun v56 =>
  vExt v55 1 fun v57 =>
  vAlloc Tryd.prog 23 w_6 fun v13 w_7 =>
  vSt (some 5) v13 v56 w_7 fun w_8 =>
  vBin (.int .i64) .eql v57 (.int .i64 0) fun v59 =>
  vBool v59 fun c_5 => if c_5 = true then
   (vBin (.int .i64) .add (ρ 22) (.int .i64 1) fun v62 =>
   vLd (.agg 5) v13 w_8 fun v63 =>
   vBuild Tryd.prog 72 [(0, v62), (1, v63)] fun v64 =>
   vBuildSlice Tryd.prog 67 1 [(0, v64)] w_8 fun v65 w_9 =>
   vAppend Tryd.prog 67 67 (ρ 5) v65 w_9 fun v66 w_10 =>
   vBin (.int .i64) .add (ρ 22) (.int .i64 1) fun v97_3 =>
  ag1 [v66, (ρ 6), (ρ 20), (ρ 21), v97_3] ds w_10)
  else
  CallK Tryd.prog 34 #[v26] w_8 fun v69 w_11 =>
  vExt v69 0 fun v70 =>
  vExt v69 1 fun v71 =>
  vExt v69 2 fun v72 =>
  vAlloc Tryd.prog 23 w_11 fun v15 w_12 =>
  vSt (some 5) v15 v70 w_12 fun w_13 =>
  joinF [5, 6, 7, 15, 16, 20, 21, 22, 86] (fun J3 =>
  vUn .not v72 fun v74 =>
  vBool v74 fun g_2 => if g_2 = true then
  (J3 [(ρ 5), (ρ 6), (ρ 22), v15, v71, (ρ 20), (ρ 21), (ρ 22), (.bool true)] ds w_13)
  else
  (vFA (some 0) v15 fun v76 =>
  vLd .one v76 w_13 fun v77 =>
  CallK Tryd.prog 28 #[v77] w_13 fun v78 w_14 =>
  vField (some (.one, 2)) v78 fun v79 =>
  vBin (.int .i64) .neq v79 (.int .i64 3) fun v80 =>
  vBool v80 fun g_3 => if g_3 = true then
  (J3 [(ρ 5), (ρ 6), (ρ 22), v15, v71, (ρ 20), (ρ 21), (ρ 22), (.bool true)] ds w_14)
  else
  (CallK Tryd.prog 55 #[v71] w_14 fun v84 w_15 =>
  vUn .not v84 fun v85 =>
  J3 [(ρ 5), (ρ 6), (ρ 22), v15, v71, (ρ 20), (ρ 21), (ρ 22), v85] ds w_15)))
  (F41J3 K ag1))
  else
  leaveV ds w fun W => K (.tuple #[(ρ 5), (ρ 6), (.int .i64 0)]) W

/-- gatehouse/isa.lines -/
def F41 (t0 : Value) (w : World) (K : Value → World → Prop) : Prop :=
  vMakeMap none w fun v18 w =>
  CallK Tryd.prog 48 #[t0, (.string ⟨#[10]⟩)] w fun v20 w_2 =>
  vLen (.slice 1) v20 fun v21 =>
  loopF [5, 6, 20, 21, 22] [(.slice none 0 0), v18, v20, v21, (.int .i64 0)] [] w_2 (F41L1 K)

def tab41 : Tab := { sel := [(4, [5, 6, 20, 21, 22])], plan := [], join := [(18, [5, 6, 7, 15, 16, 20, 21, 22, 86])] }

theorem F41_eq (t0 : Value) (w : World) (K : Value → World → Prop) : enterV Tryd.prog tab41 Tryd.f41 [t0] w K = F41 t0 w K := by kernel_rfl

theorem F41_ok {t0 : Value} {w : World} {K : Value → World → Prop} (h : F41 t0 w K) : Ret Tryd.prog 41 #[t0] w K :=
  enter_sound (T := tab41) (args := [t0]) Tryd.func41 Tryd.call41 mixed (by kernel_rfl) (by rw [F41_eq]; exact h)

end Go.Proofs.YtnmmpgeojimgoaaDoor
