import Derived.Test.YtnmmpgeojimgoaaDoorVe
import Derived.Test.YtnmmpgeojimgoaaDoorProg
set_option linter.unusedVariables false
namespace Go.Proofs.YtnmmpgeojimgoaaDoor
open Go Go.V
set_option maxRecDepth 100000
theorem mixed : Tryd.prog.follows .mixedOrders = true := by kernel_rfl
set_option maxRecDepth 100000

/-- gatehouse/gatehouseref02.Right -/
def F11 (t0 : Value) (w : World) (K : Value → World → Prop) : Prop :=
  vBox 23 t0 w fun v1 w =>
  vFA (some 0) v1 fun v3 =>
  vLd .one v3 w fun v4 =>
  CallK Tryd.prog 24 #[v4] w fun v5 w_2 =>
  vBin .string .eql v5 (.string ⟨#[]⟩) fun v6 =>
  vBool v6 fun c => if c = true then
   (K (.bool false) w_2)
  else
  vFA (some 0) v1 fun v7 =>
  vLd .one v7 w_2 fun v8 =>
  CallK Tryd.prog 25 #[v8] w_2 fun v9 w_3 =>
  vBin (.int .i64) .eql v9 (.int .i64 1) fun v11 =>
  vBool v11 fun c_2 => if c_2 = true then
   (vFA (some 1) v1 fun v12 =>
   vLd .one v12 w_3 fun v13 =>
   CallK Tryd.prog 26 #[v13] w_3 fun v14 w_4 =>
   vBool v14 fun g => if g = true then
   (vFA (some 2) v1 fun v16 =>
   vLd .one v16 w_4 fun v17 =>
   vBin (.int .i64) .eql v17 (.int .i64 0) fun v18 =>
   vBool v18 fun g_2 => if g_2 = true then
   (vFA (some 3) v1 fun v21 =>
   vLd .one v21 w_4 fun v22 =>
   vBin (.int .i64) .eql v22 (.int .i64 0) fun v23 =>
   vBool v23 fun g_3 => if g_3 = true then
   (vFA (some 4) v1 fun v26 =>
   vLd .one v26 w_4 fun v27 =>
   vBin (.int .i64) .geq v27 (.int .i64 0) fun v28 =>
   vBool v28 fun g_4 => if g_4 = true then
   (vFA (some 4) v1 fun v31 =>
   vLd .one v31 w_4 fun v32 =>
   vBin (.int .i64) .leq v32 (.int .i64 65535) fun v33 =>
   K v33 w_4)
   else
   (K (.bool false) w_4))
   else
   (K (.bool false) w_4))
   else
   (K (.bool false) w_4))
   else
   (K (.bool false) w_4))
  else
  vBin (.int .i64) .eql v9 (.int .i64 2) fun v36 =>
  vBool v36 fun c_3 => if c_3 = true then
   (vFA (some 1) v1 fun v37 =>
   vLd .one v37 w_3 fun v38 =>
   CallK Tryd.prog 26 #[v38] w_3 fun v39 w_5 =>
   vBool v39 fun g_5 => if g_5 = true then
   (vFA (some 2) v1 fun v41 =>
   vLd .one v41 w_5 fun v42 =>
   CallK Tryd.prog 26 #[v42] w_5 fun v43 w_6 =>
   vBool v43 fun g_6 => if g_6 = true then
   (vFA (some 3) v1 fun v46 =>
   vLd .one v46 w_6 fun v47 =>
   vBin (.int .i64) .eql v47 (.int .i64 0) fun v48 =>
   vBool v48 fun g_7 => if g_7 = true then
   (vFA (some 4) v1 fun v51 =>
   vLd .one v51 w_6 fun v52 =>
   vBin (.int .i64) .eql v52 (.int .i64 0) fun v53 =>
   K v53 w_6)
   else
   (K (.bool false) w_6))
   else
   (K (.bool false) w_6))
   else
   (K (.bool false) w_5))
  else
  vBin (.int .i64) .eql v9 (.int .i64 3) fun v56 =>
  vBool v56 fun c_4 => if c_4 = true then
   (vFA (some 1) v1 fun v57 =>
   vLd .one v57 w_3 fun v58 =>
   CallK Tryd.prog 26 #[v58] w_3 fun v59 w_7 =>
   vBool v59 fun g_8 => if g_8 = true then
   (vFA (some 2) v1 fun v61 =>
   vLd .one v61 w_7 fun v62 =>
   CallK Tryd.prog 26 #[v62] w_7 fun v63 w_8 =>
   vBool v63 fun g_9 => if g_9 = true then
   (vFA (some 3) v1 fun v66 =>
   vLd .one v66 w_8 fun v67 =>
   CallK Tryd.prog 26 #[v67] w_8 fun v68 w_9 =>
   vBool v68 fun g_10 => if g_10 = true then
   (vFA (some 4) v1 fun v71 =>
   vLd .one v71 w_9 fun v72 =>
   vBin (.int .i64) .eql v72 (.int .i64 0) fun v73 =>
   K v73 w_9)
   else
   (K (.bool false) w_9))
   else
   (K (.bool false) w_8))
   else
   (K (.bool false) w_7))
  else
  vBin (.int .i64) .eql v9 (.int .i64 4) fun v76 =>
  vBool v76 fun c_5 => if c_5 = true then
   (vFA (some 1) v1 fun v77 =>
   vLd .one v77 w_3 fun v78 =>
   CallK Tryd.prog 26 #[v78] w_3 fun v79 w_10 =>
   vBool v79 fun g_11 => if g_11 = true then
   (vFA (some 2) v1 fun v81 =>
   vLd .one v81 w_10 fun v82 =>
   CallK Tryd.prog 26 #[v82] w_10 fun v83 w_11 =>
   vBool v83 fun g_12 => if g_12 = true then
   (vFA (some 3) v1 fun v86 =>
   vLd .one v86 w_11 fun v87 =>
   vBin (.int .i64) .eql v87 (.int .i64 0) fun v88 =>
   vBool v88 fun g_13 => if g_13 = true then
   (vFA (some 4) v1 fun v91 =>
   vLd .one v91 w_11 fun v92 =>
   vBin (.int .i64) .geq v92 (.int .i64 0) fun v93 =>
   vBool v93 fun g_14 => if g_14 = true then
   (vFA (some 4) v1 fun v96 =>
   vLd .one v96 w_11 fun v97 =>
   vBin (.int .i64) .leq v97 (.int .i64 255) fun v98 =>
   K v98 w_11)
   else
   (K (.bool false) w_11))
   else
   (K (.bool false) w_11))
   else
   (K (.bool false) w_11))
   else
   (K (.bool false) w_10))
  else
  vBin (.int .i64) .eql v9 (.int .i64 5) fun v101 =>
  vBool v101 fun c_6 => if c_6 = true then
   (vFA (some 1) v1 fun v102 =>
   vLd .one v102 w_3 fun v103 =>
   vBin (.int .i64) .eql v103 (.int .i64 0) fun v104 =>
   vBool v104 fun g_15 => if g_15 = true then
   (vFA (some 2) v1 fun v106 =>
   vLd .one v106 w_3 fun v107 =>
   vBin (.int .i64) .eql v107 (.int .i64 0) fun v108 =>
   vBool v108 fun g_16 => if g_16 = true then
   (vFA (some 3) v1 fun v111 =>
   vLd .one v111 w_3 fun v112 =>
   vBin (.int .i64) .eql v112 (.int .i64 0) fun v113 =>
   vBool v113 fun g_17 => if g_17 = true then
   (vFA (some 4) v1 fun v116 =>
   vLd .one v116 w_3 fun v117 =>
   CallK Tryd.prog 27 #[v117] w_3 fun v118 w_12 =>
   K v118 w_12)
   else
   (K (.bool false) w_3))
   else
   (K (.bool false) w_3))
   else
   (K (.bool false) w_3))
  else
  vBin (.int .i64) .eql v9 (.int .i64 6) fun v121 =>
  vBool v121 fun c_7 => if c_7 = true then
   (vFA (some 1) v1 fun v122 =>
   vLd .one v122 w_3 fun v123 =>
   CallK Tryd.prog 26 #[v123] w_3 fun v124 w_13 =>
   vBool v124 fun g_18 => if g_18 = true then
   (vFA (some 2) v1 fun v126 =>
   vLd .one v126 w_13 fun v127 =>
   vBin (.int .i64) .eql v127 (.int .i64 0) fun v128 =>
   vBool v128 fun g_19 => if g_19 = true then
   (vFA (some 3) v1 fun v131 =>
   vLd .one v131 w_13 fun v132 =>
   vBin (.int .i64) .eql v132 (.int .i64 0) fun v133 =>
   vBool v133 fun g_20 => if g_20 = true then
   (vFA (some 4) v1 fun v136 =>
   vLd .one v136 w_13 fun v137 =>
   CallK Tryd.prog 27 #[v137] w_13 fun v138 w_14 =>
   K v138 w_14)
   else
   (K (.bool false) w_13))
   else
   (K (.bool false) w_13))
   else
   (K (.bool false) w_13))
  else
  vFA (some 1) v1 fun v140 =>
  vLd .one v140 w_3 fun v141 =>
  vBin (.int .i64) .eql v141 (.int .i64 0) fun v142 =>
  vBool v142 fun g_21 => if g_21 = true then
  (vFA (some 2) v1 fun v144 =>
  vLd .one v144 w_3 fun v145 =>
  vBin (.int .i64) .eql v145 (.int .i64 0) fun v146 =>
  vBool v146 fun g_22 => if g_22 = true then
  (vFA (some 3) v1 fun v149 =>
  vLd .one v149 w_3 fun v150 =>
  vBin (.int .i64) .eql v150 (.int .i64 0) fun v151 =>
  vBool v151 fun g_23 => if g_23 = true then
  (vFA (some 4) v1 fun v154 =>
  vLd .one v154 w_3 fun v155 =>
  vBin (.int .i64) .eql v155 (.int .i64 0) fun v156 =>
  K v156 w_3)
  else
  (K (.bool false) w_3))
  else
  (K (.bool false) w_3))
  else
  (K (.bool false) w_3)

def tab11 : Tab := { sel := [], plan := [], join := [] }

theorem F11_eq (t0 : Value) (w : World) (K : Value → World → Prop) : enterV Tryd.prog tab11 Tryd.f11 [t0] w K = F11 t0 w K := by kernel_rfl

theorem F11_ok {t0 : Value} {w : World} {K : Value → World → Prop} (h : F11 t0 w K) : Ret Tryd.prog 11 #[t0] w K :=
  enter_sound (T := tab11) (args := [t0]) Tryd.func11 Tryd.call11 mixed (by kernel_rfl) (by rw [F11_eq]; exact h)

def F12J2 (K : Value → World → Prop) (ρ : Env) (ds : List Nat) (w : World) : Prop :=
  vBool (ρ 25) fun c_2 => if c_2 = true then
   (drawF2 w fun S T =>
   vFA (some 4) (ρ 1) fun v28 =>
   vLdS S .one v28 fun v29 =>
   vConv (.int .u8) v29 fun v30 =>
   vFA (some 4) (ρ 1) fun v31 =>
   vLdS (fun w => S w ∨ T w) .one v31 fun v32 =>
   vBin (.int .i64) .shr v32 (.int .u64 8) fun v33 =>
   vConv (.int .u8) v33 fun v34 =>
   vIA (.arr 4 1) (ρ 4) (.int .i64 2) fun v35 =>
   (vSt (some 1) v35 v30 w.drew fun w_6 =>
   T w_6 ∧ (vIA (.arr 4 1) (ρ 4) (.int .i64 3) fun v36 =>
   (vSt (some 1) v36 v34 w_6 fun w_7 =>
   (vSlice (.arr 4 1) (ρ 4) none none fun v43 =>
  vB2S v43 w_7 fun v44 =>
  leaveV ds w_7 fun W => K (.tuple #[v44, (.int .i64 0)]) W)) ∧
   (True))) ∧
   (True))
  else
  vBin (.int .i64) .eql (ρ 24) (.int .i64 2) fun v38 =>
  vBool v38 fun c_3 => if c_3 = true then
   (vFA (some 4) (ρ 1) fun v39 =>
   vLd .one v39 w fun v40 =>
   vConv (.int .u8) v40 fun v41 =>
   vIA (.arr 4 1) (ρ 4) (.int .i64 3) fun v42 =>
   vSt (some 1) v42 v41 w fun w_8 =>
   vSlice (.arr 4 1) (ρ 4) none none fun v43_2 =>
  vB2S v43_2 w_8 fun v44_2 =>
  leaveV ds w_8 fun W => K (.tuple #[v44_2, (.int .i64 0)]) W)
  else
  vSlice (.arr 4 1) (ρ 4) none none fun v43_3 =>
  vB2S v43_3 w fun v44_3 =>
  leaveV ds w fun W => K (.tuple #[v44_3, (.int .i64 0)]) W

/-- gatehouse/isa.Encode -/
def F12 (t0 : Value) (w : World) (K : Value → World → Prop) : Prop :=
  vBox 23 t0 w fun v1 w =>
  vLd (.agg 5) v1 w fun v5 =>
  CallK Tryd.prog 14 #[v5] w fun v6 w_2 =>
  vUn .not v6 fun v7 =>
  vBool v7 fun c => if c = true then
   (K (.tuple #[(.string ⟨#[]⟩), (.int .i64 12)]) w_2)
  else
  vFA (some 0) v1 fun v8 =>
  vLd .one v8 w_2 fun v9 =>
  vConv (.int .u8) v9 fun v10 =>
  vFA (some 1) v1 fun v11 =>
  vLd .one v11 w_2 fun v12 =>
  vConv (.int .u8) v12 fun v13 =>
  vFA (some 2) v1 fun v14 =>
  vLd .one v14 w_2 fun v15 =>
  vConv (.int .u8) v15 fun v16 =>
  vFA (some 3) v1 fun v17 =>
  vLd .one v17 w_2 fun v18 =>
  vConv (.int .u8) v18 fun v19 =>
  vBuild Tryd.prog 50 [(0, v10), (1, v13), (2, v16), (3, v19)] fun v20 =>
  vAlloc Tryd.prog 50 w_2 fun v4 w_3 =>
  vSt (some 4) v4 v20 w_3 fun w_4 =>
  vFA (some 0) v1 fun v21 =>
  vLd .one v21 w_4 fun v22 =>
  CallK Tryd.prog 28 #[v22] w_4 fun v23 w_5 =>
  vField (some (.one, 2)) v23 fun v24 =>
  joinF [1, 4, 24, 25] (fun J2 =>
  vBin (.int .i64) .eql v24 (.int .i64 1) fun v26 =>
  vBool v26 fun c_2 => if c_2 = true then
   (J2 [v1, v4, v24, v26] [] w_5)
  else
  vBin (.int .i64) .eql v24 (.int .i64 3) fun v27 =>
  J2 [v1, v4, v24, v27] [] w_5)
  (F12J2 K)

def tab12 : Tab := { sel := [], plan := [(7, (.take 0 (.take 1 (.take 2 (.take 3 (.take 4 (.take 5 (.take 6 (.take 7 (.alt 8 (.take 9 (.alt 10 .done .stop)) .stop))))))))))], join := [(7, [1, 4, 24, 25])] }

theorem F12_eq (t0 : Value) (w : World) (K : Value → World → Prop) : enterV Tryd.prog tab12 Tryd.f12 [t0] w K = F12 t0 w K := by kernel_rfl

theorem F12_ok {t0 : Value} {w : World} {K : Value → World → Prop} (h : F12 t0 w K) : Ret Tryd.prog 12 #[t0] w K :=
  enter_sound (T := tab12) (args := [t0]) Tryd.func12 Tryd.call12 mixed (by kernel_rfl) (by rw [F12_eq]; exact h)

def F13L1 (K : Value → World → Prop) (ρ : Env) (ds : List Nat) (w : World) (ag1 : List Value → List Nat → World → Prop) : Prop :=
  vBin (.int .i64) .lss (ρ 28) (ρ 27) fun v29 =>
  vBool v29 fun c_2 => if c_2 = true then
   (vIA (.slice 1) (ρ 26) (ρ 28) fun v30 =>
  vLd .one v30 w fun v31 =>
  CallK Tryd.prog 29 #[v31] w fun v34 w_8 =>
  vBin .string .add (.string ⟨#[114]⟩) v34 fun v35 =>
  vBuildSlice Tryd.prog 43 1 [(0, v35)] w_8 fun v36 w_9 =>
  vAppend Tryd.prog 43 43 (ρ 5) v36 w_9 fun v37 w_10 =>
  vBin (.int .i64) .add (ρ 28) (.int .i64 1) fun v38 =>
  ag1 [(ρ 1), (ρ 4), v37, (ρ 26), (ρ 27), v38] ds w_10)
  else
  vFA (some 2) (ρ 4) fun v39 =>
  vLd .one v39 w fun v40 =>
  vBin (.int .i64) .neq v40 (.int .i64 0) fun v41 =>
  vBool v41 fun c_3 => if c_3 = true then
   (vFA (some 4) (ρ 1) fun v43 =>
   vLd .one v43 w fun v44 =>
   CallK Tryd.prog 29 #[v44] w fun v45 w_11 =>
   vBuildSlice Tryd.prog 43 1 [(0, v45)] w_11 fun v46 w_12 =>
   vAppend Tryd.prog 43 43 (ρ 5) v46 w_12 fun v47 w_13 =>
   CallK Tryd.prog 30 #[v47, (.string ⟨#[32]⟩)] w_13 fun v49 w_14 =>
  leaveV ds w_14 fun W => K (.tuple #[v49, (.int .i64 0)]) W)
  else
  CallK Tryd.prog 30 #[(ρ 5), (.string ⟨#[32]⟩)] w fun v49_2 w_15 =>
  leaveV ds w_15 fun W => K (.tuple #[v49_2, (.int .i64 0)]) W

/-- gatehouse/isa.Text -/
def F13 (t0 : Value) (w : World) (K : Value → World → Prop) : Prop :=
  vBox 23 t0 w fun v1 w =>
  vLd (.agg 5) v1 w fun v8 =>
  CallK Tryd.prog 14 #[v8] w fun v9 w_2 =>
  vUn .not v9 fun v10 =>
  vBool v10 fun c => if c = true then
   (K (.tuple #[(.string ⟨#[]⟩), (.int .i64 12)]) w_2)
  else
  vFA (some 0) v1 fun v11 =>
  vLd .one v11 w_2 fun v12 =>
  CallK Tryd.prog 28 #[v12] w_2 fun v13 w_3 =>
  vAlloc Tryd.prog 52 w_3 fun v4 w_4 =>
  vSt (some 3) v4 v13 w_4 fun w_5 =>
  vFA (some 0) v4 fun v14 =>
  vLd .one v14 w_5 fun v15 =>
  vBuildSlice Tryd.prog 43 1 [(0, v15)] w_5 fun v16 w_6 =>
  vFA (some 1) v1 fun v17 =>
  vLd .one v17 w_6 fun v18 =>
  vFA (some 2) v1 fun v19 =>
  vLd .one v19 w_6 fun v20 =>
  vFA (some 3) v1 fun v21 =>
  vLd .one v21 w_6 fun v22 =>
  vBuildSlice Tryd.prog 55 3 [(0, v18), (1, v20), (2, v22)] w_6 fun v23 w_7 =>
  vFA (some 1) v4 fun v24 =>
  vLd .one v24 w_7 fun v25 =>
  vSlice (.slice 1) v23 none (some v25) fun v26 =>
  vLen (.slice 1) v26 fun v27 =>
  loopF [1, 4, 5, 26, 27, 28] [v1, v4, v16, v26, v27, (.int .i64 0)] [] w_7 (F13L1 K)

def tab13 : Tab := { sel := [(6, [1, 4, 5, 26, 27, 28])], plan := [], join := [] }

theorem F13_eq (t0 : Value) (w : World) (K : Value → World → Prop) : enterV Tryd.prog tab13 Tryd.f13 [t0] w K = F13 t0 w K := by kernel_rfl

theorem F13_ok {t0 : Value} {w : World} {K : Value → World → Prop} (h : F13 t0 w K) : Ret Tryd.prog 13 #[t0] w K :=
  enter_sound (T := tab13) (args := [t0]) Tryd.func13 Tryd.call13 mixed (by kernel_rfl) (by rw [F13_eq]; exact h)

def F14L1 (K : Value → World → Prop) (ρ : Env) (ds : List Nat) (w : World) (ag1 : List Value → List Nat → World → Prop) : Prop :=
  vBin (.int .i64) .lss (ρ 27) (.int .i64 3) fun v28 =>
  vBool v28 fun c_2 => if c_2 = true then
   (vIx (.arr 3 1) .one (ρ 26) (ρ 27) fun v30 =>
  vFA (some 1) (ρ 3) fun v32 =>
  vLd .one v32 w fun v33 =>
  vBin (.int .i64) .lss (ρ 27) v33 fun v34 =>
  vBool v34 fun g => if g = true then
  (vBin (.int .i64) .lss v30 (.int .i64 0) fun v37 =>
  vBool v37 fun g_2 => if g_2 = true then
  (leaveV ds w fun W => K (.bool false) W)
  else
  (vBin (.int .i64) .geq v30 (.int .i64 16) fun v40 =>
  vBool v40 fun g_3 => if g_3 = true then
  (leaveV ds w fun W => K (.bool false) W)
  else
  (vFA (some 1) (ρ 3) fun v45 =>
  vLd .one v45 w fun v46 =>
  vBin (.int .i64) .geq (ρ 27) v46 fun v47 =>
  vBool v47 fun g_4 => if g_4 = true then
  (vBin (.int .i64) .neq v30 (.int .i64 0) fun v50 =>
  vBool v50 fun c_3 => if c_3 = true then
   (leaveV ds w fun W => K (.bool false) W)
  else
  vBin (.int .i64) .add (ρ 27) (.int .i64 1) fun v53 =>
  ag1 [(ρ 3), (ρ 26), v53] ds w)
  else
  (vBin (.int .i64) .add (ρ 27) (.int .i64 1) fun v53_2 =>
  ag1 [(ρ 3), (ρ 26), v53_2] ds w))))
  else
  (vFA (some 1) (ρ 3) fun v45_2 =>
  vLd .one v45_2 w fun v46_2 =>
  vBin (.int .i64) .geq (ρ 27) v46_2 fun v47_2 =>
  vBool v47_2 fun g_5 => if g_5 = true then
  (vBin (.int .i64) .neq v30 (.int .i64 0) fun v50_2 =>
  vBool v50_2 fun c_4 => if c_4 = true then
   (leaveV ds w fun W => K (.bool false) W)
  else
  vBin (.int .i64) .add (ρ 27) (.int .i64 1) fun v53_3 =>
  ag1 [(ρ 3), (ρ 26), v53_3] ds w)
  else
  (vBin (.int .i64) .add (ρ 27) (.int .i64 1) fun v53_4 =>
  ag1 [(ρ 3), (ρ 26), v53_4] ds w)))
  else
  leaveV ds w fun W => K (.bool true) W

def F14J1 (K : Value → World → Prop) (ρ : Env) (ds : List Nat) (w : World) : Prop :=
  vBool (ρ 19) fun c => if c = true then
   (leaveV ds w fun W => K (.bool false) W)
  else
  vFA (some 1) (ρ 1) fun v20 =>
  vLd .one v20 w fun v21 =>
  vFA (some 2) (ρ 1) fun v22 =>
  vLd .one v22 w fun v23 =>
  vFA (some 3) (ρ 1) fun v24 =>
  vLd .one v24 w fun v25 =>
  vBuild Tryd.prog 58 [(0, v21), (1, v23), (2, v25)] fun v26 =>
  loopF [3, 26, 27] [(ρ 3), v26, (.int .i64 0)] ds w (F14L1 K)

/-- gatehouse/isa.Right -/
def F14 (t0 : Value) (w : World) (K : Value → World → Prop) : Prop :=
  vBox 23 t0 w fun v1 w =>
  vFA (some 0) v1 fun v6 =>
  vLd .one v6 w fun v7 =>
  CallK Tryd.prog 28 #[v7] w fun v8 w_2 =>
  vAlloc Tryd.prog 52 w_2 fun v3 w_3 =>
  vSt (some 3) v3 v8 w_3 fun w_4 =>
  joinF [1, 3, 19] (fun J1 =>
  vFA (some 0) v3 fun v9 =>
  vLd .one v9 w_4 fun v10 =>
  vBin .string .eql v10 (.string ⟨#[]⟩) fun v11 =>
  vBool v11 fun g => if g = true then
  (J1 [v1, v3, (.bool true)] [] w_4)
  else
  (vFA (some 2) v3 fun v13 =>
  vLd .one v13 w_4 fun v14 =>
  vFA (some 4) v1 fun v15 =>
  vLd .one v15 w_4 fun v16 =>
  CallK Tryd.prog 31 #[v14, v16] w_4 fun v17 w_5 =>
  vUn .not v17 fun v18 =>
  J1 [v1, v3, v18] [] w_5))
  (F14J1 K)

def tab14 : Tab := { sel := [(5, [3, 26, 27])], plan := [], join := [(3, [1, 3, 19])] }

theorem F14_eq (t0 : Value) (w : World) (K : Value → World → Prop) : enterV Tryd.prog tab14 Tryd.f14 [t0] w K = F14 t0 w K := by kernel_rfl

theorem F14_ok {t0 : Value} {w : World} {K : Value → World → Prop} (h : F14 t0 w K) : Ret Tryd.prog 14 #[t0] w K :=
  enter_sound (T := tab14) (args := [t0]) Tryd.func14 Tryd.call14 mixed (by kernel_rfl) (by rw [F14_eq]; exact h)

def F15J3 (K : Value → World → Prop) (ρ : Env) (ds : List Nat) (w : World) : Prop :=
  vBool (ρ 27) fun c => if c = true then
   (vBin (.int .i64) .rem (ρ 4) (.int .i64 256) fun v33 =>
   vConv (.int .u8) v33 fun v34 =>
   vIA (.slice 1) (ρ 3) (.int .i64 2) fun v35 =>
   vSt (some 1) v35 v34 w fun w_4 =>
   vBin (.int .i64) .quo (ρ 4) (.int .i64 256) fun v38 =>
   vConv (.int .u8) v38 fun v39 =>
   vIA (.slice 1) (ρ 3) (.int .i64 3) fun v40 =>
   vSt (some 1) v40 v39 w_4 fun w_5 =>
   vB2S (ρ 3) w_5 fun v48 =>
  leaveV ds w_5 fun W => K v48 W)
  else
  vBin (.int .i64) .eql (ρ 26) (.int .i64 4) fun v42 =>
  vBool v42 fun c_2 => if c_2 = true then
   (vConv (.int .u8) (ρ 4) fun v45 =>
   vIA (.slice 1) (ρ 3) (.int .i64 3) fun v46 =>
   vSt (some 1) v46 v45 w fun w_6 =>
   vB2S (ρ 3) w_6 fun v48_2 =>
  leaveV ds w_6 fun W => K v48_2 W)
  else
  vB2S (ρ 3) w fun v48_3 =>
  leaveV ds w fun W => K v48_3 W

def F15J1 (K : Value → World → Prop) (ρ : Env) (ds : List Nat) (w : World) : Prop :=
  vFA (some 0) (ρ 1) fun v24 =>
  vLd .one v24 w fun v25 =>
  CallK Tryd.prog 25 #[v25] w fun v26 w_3 =>
  joinF [3, 4, 26, 27] (fun J3 =>
  vBin (.int .i64) .eql v26 (.int .i64 1) fun v28 =>
  vBool v28 fun c => if c = true then
   (J3 [(ρ 3), (ρ 4), v26, v28] ds w_3)
  else
  vBin (.int .i64) .eql v26 (.int .i64 5) fun v29 =>
  vBool v29 fun c_2 => if c_2 = true then
   (J3 [(ρ 3), (ρ 4), v26, v29] ds w_3)
  else
  vBin (.int .i64) .eql v26 (.int .i64 6) fun v30 =>
  J3 [(ρ 3), (ρ 4), v26, v30] ds w_3)
  (F15J3 K)

/-- gatehouse/gatehouseref02.Encode -/
def F15 (t0 : Value) (w : World) (K : Value → World → Prop) : Prop :=
  vBox 23 t0 w fun v1 w =>
  vFA (some 0) v1 fun v5 =>
  vLd .one v5 w fun v6 =>
  vConv (.int .u8) v6 fun v7 =>
  vFA (some 1) v1 fun v8 =>
  vLd .one v8 w fun v9 =>
  vConv (.int .u8) v9 fun v10 =>
  vFA (some 2) v1 fun v11 =>
  vLd .one v11 w fun v12 =>
  vConv (.int .u8) v12 fun v13 =>
  vFA (some 3) v1 fun v14 =>
  vLd .one v14 w fun v15 =>
  vConv (.int .u8) v15 fun v16 =>
  vBuildSlice Tryd.prog 54 4 [(0, v7), (1, v10), (2, v13), (3, v16)] w fun v17 w_2 =>
  vFA (some 4) v1 fun v18 =>
  vLd .one v18 w_2 fun v19 =>
  joinF [1, 3, 4] (fun J1 =>
  vBin (.int .i64) .lss v19 (.int .i64 0) fun v21 =>
  vBool v21 fun c => if c = true then
   (vBin (.int .i64) .add v19 (.int .i64 65536) fun v23 =>
   J1 [v1, v17, v23] [] w_2)
  else
  J1 [v1, v17, v19] [] w_2)
  (F15J1 K)

def tab15 : Tab := { sel := [], plan := [], join := [(9, [3, 4, 26, 27]), (5, [1, 3, 4])] }

theorem F15_eq (t0 : Value) (w : World) (K : Value → World → Prop) : enterV Tryd.prog tab15 Tryd.f15 [t0] w K = F15 t0 w K := by kernel_rfl

theorem F15_ok {t0 : Value} {w : World} {K : Value → World → Prop} (h : F15 t0 w K) : Ret Tryd.prog 15 #[t0] w K :=
  enter_sound (T := tab15) (args := [t0]) Tryd.func15 Tryd.call15 mixed (by kernel_rfl) (by rw [F15_eq]; exact h)

def F16J2 (K : Value → World → Prop) (ρ : Env) (ds : List Nat) (w : World) : Prop :=
  vBool (ρ 10) fun c => if c = true then
   (drawF w fun S =>
   vFA (some 1) (ρ 1) fun v14 =>
   vLdS S .one v14 fun v15 =>
   vFA (some 4) (ρ 1) fun v19 =>
   vLdS S .one v19 fun v20 =>
   (CallK Tryd.prog 32 #[v15] w.drew fun v16 w_4 =>
   S w_4 ∧ (vBin .string .add (ρ 3) v16 fun v17 =>
   vBin .string .add v17 (.string ⟨#[32]⟩) fun v18 =>
   (CallK Tryd.prog 33 #[v20] w_4 fun v21 w_5 =>
   S w_5 ∧ (vBin .string .add v18 v21 fun v22 =>
   leaveV ds w_5 fun W => K v22 W)) ∧
   (True))) ∧
   (True))
  else
  vBin (.int .i64) .eql (ρ 9) (.int .i64 2) fun v24 =>
  vBool v24 fun c_2 => if c_2 = true then
   (drawF w fun S_2 =>
   vFA (some 1) (ρ 1) fun v26 =>
   vLdS S_2 .one v26 fun v27 =>
   vFA (some 2) (ρ 1) fun v30 =>
   vLdS S_2 .one v30 fun v31 =>
   (CallK Tryd.prog 32 #[v27] w.drew fun v28 w_6 =>
   S_2 w_6 ∧ (vBin .string .add (ρ 3) v28 fun v29 =>
   (CallK Tryd.prog 32 #[v31] w_6 fun v32 w_7 =>
   S_2 w_7 ∧ (vBin .string .add v29 v32 fun v33 =>
   leaveV ds w_7 fun W => K v33 W)) ∧
   (True))) ∧
   (True))
  else
  vBin (.int .i64) .eql (ρ 9) (.int .i64 3) fun v35 =>
  vBool v35 fun c_3 => if c_3 = true then
   (drawF w fun S_3 =>
   vFA (some 1) (ρ 1) fun v37 =>
   vLdS S_3 .one v37 fun v38 =>
   vFA (some 2) (ρ 1) fun v41 =>
   vLdS S_3 .one v41 fun v42 =>
   vFA (some 3) (ρ 1) fun v45 =>
   vLdS S_3 .one v45 fun v46 =>
   (CallK Tryd.prog 32 #[v38] w.drew fun v39 w_8 =>
   S_3 w_8 ∧ (vBin .string .add (ρ 3) v39 fun v40 =>
   (CallK Tryd.prog 32 #[v42] w_8 fun v43 w_9 =>
   S_3 w_9 ∧ (vBin .string .add v40 v43 fun v44 =>
   (CallK Tryd.prog 32 #[v46] w_9 fun v47 w_10 =>
   S_3 w_10 ∧ (vBin .string .add v44 v47 fun v48 =>
   leaveV ds w_10 fun W => K v48 W)) ∧
   (True))) ∧
   (True))) ∧
   (True))
  else
  vBin (.int .i64) .eql (ρ 9) (.int .i64 4) fun v50 =>
  vBool v50 fun c_4 => if c_4 = true then
   (drawF w fun S_4 =>
   vFA (some 1) (ρ 1) fun v52 =>
   vLdS S_4 .one v52 fun v53 =>
   vFA (some 2) (ρ 1) fun v56 =>
   vLdS S_4 .one v56 fun v57 =>
   vFA (some 4) (ρ 1) fun v61 =>
   vLdS S_4 .one v61 fun v62 =>
   (CallK Tryd.prog 32 #[v53] w.drew fun v54 w_11 =>
   S_4 w_11 ∧ (vBin .string .add (ρ 3) v54 fun v55 =>
   (CallK Tryd.prog 32 #[v57] w_11 fun v58 w_12 =>
   S_4 w_12 ∧ (vBin .string .add v55 v58 fun v59 =>
   vBin .string .add v59 (.string ⟨#[32]⟩) fun v60 =>
   (CallK Tryd.prog 33 #[v62] w_12 fun v63 w_13 =>
   S_4 w_13 ∧ (vBin .string .add v60 v63 fun v64 =>
   leaveV ds w_13 fun W => K v64 W)) ∧
   (True))) ∧
   (True))) ∧
   (True))
  else
  vBin (.int .i64) .eql (ρ 9) (.int .i64 5) fun v66 =>
  vBool v66 fun c_5 => if c_5 = true then
   (vBin .string .add (ρ 3) (.string ⟨#[32]⟩) fun v68 =>
   vFA (some 4) (ρ 1) fun v69 =>
   vLd .one v69 w fun v70 =>
   CallK Tryd.prog 33 #[v70] w fun v71 w_14 =>
   vBin .string .add v68 v71 fun v72 =>
   leaveV ds w_14 fun W => K v72 W)
  else
  leaveV ds w fun W => K (ρ 3) W

/-- gatehouse/gatehouseref02.Text -/
def F16 (t0 : Value) (w : World) (K : Value → World → Prop) : Prop :=
  vBox 23 t0 w fun v1 w =>
  vFA (some 0) v1 fun v4 =>
  vLd .one v4 w fun v5 =>
  CallK Tryd.prog 24 #[v5] w fun v6 w_2 =>
  vFA (some 0) v1 fun v7 =>
  vLd .one v7 w_2 fun v8 =>
  CallK Tryd.prog 25 #[v8] w_2 fun v9 w_3 =>
  joinF [1, 3, 9, 10] (fun J2 =>
  vBin (.int .i64) .eql v9 (.int .i64 1) fun v11 =>
  vBool v11 fun c => if c = true then
   (J2 [v1, v6, v9, v11] [] w_3)
  else
  vBin (.int .i64) .eql v9 (.int .i64 6) fun v12 =>
  J2 [v1, v6, v9, v12] [] w_3)
  (F16J2 K)

def tab16 : Tab := { sel := [], plan := [(5, (.take 0 (.take 1 (.take 2 (.take 6 (.take 7 (.alt 3 (.take 4 (.take 5 (.alt 8 (.take 9 (.take 10 .done)) .stop))) .stop))))))), (7, (.take 0 (.take 1 (.take 2 (.take 5 (.take 6 (.alt 3 (.take 4 (.alt 7 (.take 8 (.take 9 .done)) .stop)) .stop))))))), (9, (.take 0 (.take 1 (.take 2 (.take 5 (.take 6 (.take 9 (.take 10 (.alt 3 (.take 4 (.alt 7 (.take 8 (.alt 11 (.take 12 (.take 13 .done)) .stop)) .stop)) .stop))))))))), (11, (.take 0 (.take 1 (.take 2 (.take 5 (.take 6 (.take 10 (.take 11 (.alt 3 (.take 4 (.alt 7 (.take 8 (.take 9 (.alt 12 (.take 13 (.take 14 .done)) .stop))) .stop)) .stop)))))))))], join := [(5, [1, 3, 9, 10])] }

theorem F16_eq (t0 : Value) (w : World) (K : Value → World → Prop) : enterV Tryd.prog tab16 Tryd.f16 [t0] w K = F16 t0 w K := by kernel_rfl

theorem F16_ok {t0 : Value} {w : World} {K : Value → World → Prop} (h : F16 t0 w K) : Ret Tryd.prog 16 #[t0] w K :=
  enter_sound (T := tab16) (args := [t0]) Tryd.func16 Tryd.call16 mixed (by kernel_rfl) (by rw [F16_eq]; exact h)

def F17J1 (K : Value → World → Prop) (ρ : Env) (ds : List Nat) (w : World) : Prop :=
  vLd (.agg 5) (ρ 4) w fun v32 =>
  CallK Tryd.prog 13 #[v32] w fun v33 w_5 =>
  vExt v33 0 fun v34 =>
  vExt v33 1 fun v35 =>
  vUn .not (ρ 6) fun v37 =>
  vBool v37 fun g => if g = true then
  (vBuild Tryd.prog 23 [] fun v47 =>
  vSt (some 5) (ρ 2) v47 w_5 fun w_6 =>
  leaveV ds w_6 fun W => vLd (.agg 5) (ρ 2) W fun r => K (.tuple #[r, (.int .i64 2)]) W)
  else
  (vBin (.int .i64) .neq v35 (.int .i64 0) fun v40 =>
  vBool v40 fun g_2 => if g_2 = true then
  (vBuild Tryd.prog 23 [] fun v47_2 =>
  vSt (some 5) (ρ 2) v47_2 w_5 fun w_7 =>
  leaveV ds w_7 fun W => vLd (.agg 5) (ρ 2) W fun r_2 => K (.tuple #[r_2, (.int .i64 2)]) W)
  else
  (vBin .string .neq v34 (ρ 0) fun v45 =>
  vBool v45 fun c => if c = true then
   (vBuild Tryd.prog 23 [] fun v47_3 =>
   vSt (some 5) (ρ 2) v47_3 w_5 fun w_8 =>
   leaveV ds w_8 fun W => vLd (.agg 5) (ρ 2) W fun r_3 => K (.tuple #[r_3, (.int .i64 2)]) W)
  else
  vLd (.agg 5) (ρ 4) w_5 fun v48 =>
  vSt (some 5) (ρ 2) v48 w_5 fun w_9 =>
  leaveV ds w_9 fun W => vLd (.agg 5) (ρ 2) W fun r_4 => K (.tuple #[r_4, (.int .i64 0)]) W))

/-- gatehouse/isa.Parse -/
def F17 (t0 : Value) (w : World) (K : Value → World → Prop) : Prop :=
  vAlloc Tryd.prog 23 w fun v2 w =>
  CallK Tryd.prog 34 #[t0] w fun v13 w_2 =>
  vExt v13 0 fun v14 =>
  vExt v13 1 fun v15 =>
  vExt v13 2 fun v16 =>
  vAlloc Tryd.prog 23 w_2 fun v4 w_3 =>
  vSt (some 5) v4 v14 w_3 fun w_4 =>
  joinF [0, 2, 4, 6] (fun J1 =>
  vBool v16 fun g => if g = true then
  (vBin .string .neq v15 (.string ⟨#[]⟩) fun v20 =>
  vBool v20 fun c => if c = true then
   (CallK Tryd.prog 35 #[v15] w_4 fun v24 w_5 =>
   vExt v24 0 fun v25 =>
   vExt v24 1 fun v26 =>
   vBin .inil .eql v26 .nilIface fun v28 =>
   vFA (some 4) v4 fun v30 =>
   vSt (some 1) v30 v25 w_5 fun w_6 =>
   J1 [t0, v2, v4, v28] [] w_6)
  else
  J1 [t0, v2, v4, v16] [] w_4)
  else
  (J1 [t0, v2, v4, v16] [] w_4))
  (F17J1 K)

def tab17 : Tab := { sel := [], plan := [], join := [(6, [0, 2, 4, 6])] }

theorem F17_eq (t0 : Value) (w : World) (K : Value → World → Prop) : enterV Tryd.prog tab17 Tryd.f17 [t0] w K = F17 t0 w K := by kernel_rfl

theorem F17_ok {t0 : Value} {w : World} {K : Value → World → Prop} (h : F17 t0 w K) : Ret Tryd.prog 17 #[t0] w K :=
  enter_sound (T := tab17) (args := [t0]) Tryd.func17 Tryd.call17 mixed (by kernel_rfl) (by rw [F17_eq]; exact h)

def F21J1 (K : Value → World → Prop) (ρ : Env) (ds : List Nat) (w : World) : Prop :=
  vLd (.agg 5) (ρ 4) w fun v65 =>
  CallK Tryd.prog 12 #[v65] w fun v66 w_5 =>
  vExt v66 0 fun v67 =>
  vExt v66 1 fun v68 =>
  vBin (.int .i64) .neq v68 (.int .i64 0) fun v70 =>
  vBool v70 fun g => if g = true then
  (vBuild Tryd.prog 23 [] fun v76 =>
  vSt (some 5) (ρ 2) v76 w_5 fun w_6 =>
  leaveV ds w_6 fun W => vLd (.agg 5) (ρ 2) W fun r_2 => K (.tuple #[r_2, (.int .i64 12)]) W)
  else
  (vBin .string .neq v67 (ρ 0) fun v74 =>
  vBool v74 fun c_2 => if c_2 = true then
   (vBuild Tryd.prog 23 [] fun v76_2 =>
   vSt (some 5) (ρ 2) v76_2 w_5 fun w_7 =>
   leaveV ds w_7 fun W => vLd (.agg 5) (ρ 2) W fun r_3 => K (.tuple #[r_3, (.int .i64 12)]) W)
  else
  vLd (.agg 5) (ρ 4) w_5 fun v77 =>
  vSt (some 5) (ρ 2) v77 w_5 fun w_8 =>
  leaveV ds w_8 fun W => vLd (.agg 5) (ρ 2) W fun r_4 => K (.tuple #[r_4, (.int .i64 0)]) W)

/-- gatehouse/isa.Decode -/
def F21 (t0 : Value) (w : World) (K : Value → World → Prop) : Prop :=
  vAlloc Tryd.prog 23 w fun v2 w =>
  vLen .string t0 fun v8 =>
  vBin (.int .i64) .neq v8 (.int .i64 4) fun v9 =>
  vBool v9 fun c => if c = true then
   (vBuild Tryd.prog 23 [] fun v10 =>
   vSt (some 5) v2 v10 w fun w_2 =>
   vLd (.agg 5) v2 w_2 fun r => K (.tuple #[r, (.int .i64 12)]) w_2)
  else
  drawF w fun S =>
  vIx .string .bad t0 (.int .i64 0) fun v12 =>
  vConv (.int .i64) v12 fun v13 =>
  vIx .string .bad t0 (.int .i64 1) fun v15 =>
  vConv (.int .i64) v15 fun v16 =>
  vBuild Tryd.prog 23 [(0, v13), (1, v16)] fun v17 =>
  (vAlloc Tryd.prog 23 w.drew fun v4 w_3 =>
  S w_3 ∧ ((vSt (some 5) v4 v17 w_3 fun w_4 =>
  (joinF [0, 2, 4] (fun J1 =>
  vFA (some 0) v4 fun v18 =>
  vLd .one v18 w_4 fun v19 =>
  CallK Tryd.prog 28 #[v19] w_4 fun v20 w_5 =>
  vField (some (.one, 2)) v20 fun v21 =>
  vBin (.int .i64) .eql v21 (.int .i64 1) fun v31 =>
  vBool v31 fun c_2 => if c_2 = true then
   (drawF w_5 fun S_2 =>
   vIx .string .bad t0 (.int .i64 2) fun v33 =>
   vConv (.int .i64) v33 fun v34 =>
   vIx .string .bad t0 (.int .i64 3) fun v36 =>
   vConv (.int .i64) v36 fun v37 =>
   vBin (.int .i64) .shl v37 (.int .u64 8) fun v38 =>
   vBin (.int .i64) .or v34 v38 fun v39 =>
   vFA (some 4) v4 fun v40 =>
   (vSt (some 1) v40 v39 w_5.drew fun w_6 =>
   (J1 [t0, v2, v4] [] w_6)) ∧
   (True))
  else
  vBin (.int .i64) .eql v21 (.int .i64 3) fun v42 =>
  vBool v42 fun c_3 => if c_3 = true then
   (drawF w_5 fun S_3 =>
   vIx .string .bad t0 (.int .i64 2) fun v44 =>
   vConv (.int .u16) v44 fun v45 =>
   vIx .string .bad t0 (.int .i64 3) fun v47 =>
   vConv (.int .u16) v47 fun v48 =>
   vBin (.int .u16) .shl v48 (.int .u64 8) fun v49 =>
   vBin (.int .u16) .or v45 v49 fun v50 =>
   vConv (.int .i16) v50 fun v51 =>
   vConv (.int .i64) v51 fun v52 =>
   vFA (some 4) v4 fun v53 =>
   (vSt (some 1) v53 v52 w_5.drew fun w_7 =>
   (J1 [t0, v2, v4] [] w_7)) ∧
   (True))
  else
  vBin (.int .i64) .eql v21 (.int .i64 2) fun v55 =>
  vBool v55 fun c_4 => if c_4 = true then
   (drawF w_5 fun S_4 =>
   vIx .string .bad t0 (.int .i64 2) fun v57 =>
   vConv (.int .i64) v57 fun v58 =>
   vIx .string .bad t0 (.int .i64 3) fun v60 =>
   vConv (.int .i64) v60 fun v61 =>
   vFA (some 2) v4 fun v62 =>
   (vSt (some 1) v62 v58 w_5.drew fun w_8 =>
   (vFA (some 4) v4 fun v63 =>
   (vSt (some 1) v63 v61 w_8 fun w_9 =>
   (J1 [t0, v2, v4] [] w_9)) ∧
   (True))) ∧
   (True))
  else
  drawF w_5 fun S_5 =>
  vIx .string .bad t0 (.int .i64 2) fun v23 =>
  vConv (.int .i64) v23 fun v24 =>
  vIx .string .bad t0 (.int .i64 3) fun v26 =>
  vConv (.int .i64) v26 fun v27 =>
  vFA (some 2) v4 fun v28 =>
  (vSt (some 1) v28 v24 w_5.drew fun w_10 =>
  (vFA (some 3) v4 fun v29 =>
  (vSt (some 1) v29 v27 w_10 fun w_11 =>
  (J1 [t0, v2, v4] [] w_11)) ∧
  (True))) ∧
  (True))
  (F21J1 K))) ∧
  (True))) ∧
  (True)

def tab21 : Tab := { sel := [], plan := [(3, (.take 0 (.take 1 (.take 2 (.take 3 (.take 4 (.take 5 (.take 6 (.alt 7 (.alt 8 .done .stop) .stop))))))))), (7, (.take 0 (.take 1 (.take 2 (.take 3 (.take 4 (.take 5 (.take 6 (.take 7 (.take 8 (.alt 9 .done .stop))))))))))), (9, (.take 0 (.take 1 (.take 2 (.take 3 (.take 4 (.take 5 (.take 6 (.take 7 (.take 8 (.take 9 (.take 10 (.alt 11 .done .stop))))))))))))), (11, (.take 0 (.take 1 (.take 2 (.take 3 (.take 4 (.take 5 (.take 6 (.alt 7 (.take 8 (.alt 9 .done .stop)) .stop))))))))), (5, (.take 0 (.take 1 (.take 2 (.take 3 (.take 4 (.take 5 (.take 6 (.alt 7 (.take 8 (.alt 9 .done .stop)) .stop)))))))))], join := [(12, [0, 2, 4])] }

theorem F21_eq (t0 : Value) (w : World) (K : Value → World → Prop) : enterV Tryd.prog tab21 Tryd.f21 [t0] w K = F21 t0 w K := by kernel_rfl

theorem F21_ok {t0 : Value} {w : World} {K : Value → World → Prop} (h : F21 t0 w K) : Ret Tryd.prog 21 #[t0] w K :=
  enter_sound (T := tab21) (args := [t0]) Tryd.func21 Tryd.call21 mixed (by kernel_rfl) (by rw [F21_eq]; exact h)

def F22J2 (K : Value → World → Prop) (ρ : Env) (ds : List Nat) (w : World) : Prop :=
  vBool (ρ 40) fun c_3 => if c_3 = true then
   (vFA (some 4) (ρ 4) fun v44 =>
   vSt (some 1) v44 (ρ 5) w fun w_9 =>
   vBin (.int .i64) .geq (ρ 5) (.int .i64 32768) fun v46 =>
   vBool v46 fun c_4 => if c_4 = true then
    (vBin (.int .i64) .sub (ρ 5) (.int .i64 65536) fun v48 =>
    vFA (some 4) (ρ 4) fun v49 =>
    vSt (some 1) v49 v48 w_9 fun w_10 =>
    drawF2 w_10 fun S_4 T_2 =>
  vLdS S_4 (.agg 5) (ρ 4) fun v60_2 =>
  vLdS (fun w => S_4 w ∨ T_2 w) (.agg 5) (ρ 4) fun v61_2 =>
  (CallK Tryd.prog 11 #[v61_2] w_10.drew fun v62_2 w_11 =>
  S_4 w_11 ∧ ((vSt (some 5) (ρ 2) v60_2 w_11 fun w_12 =>
  T_2 w_12 ∧ (leaveV ds w_12 fun W => vLd (.agg 5) (ρ 2) W fun r_3 => K (.tuple #[r_3, v62_2]) W)) ∧
  (True))) ∧
  (True))
   else
   drawF2 w_9 fun S_5 T_3 =>
  vLdS S_5 (.agg 5) (ρ 4) fun v60_3 =>
  vLdS (fun w => S_5 w ∨ T_3 w) (.agg 5) (ρ 4) fun v61_3 =>
  (CallK Tryd.prog 11 #[v61_3] w_9.drew fun v62_3 w_13 =>
  S_5 w_13 ∧ ((vSt (some 5) (ρ 2) v60_3 w_13 fun w_14 =>
  T_3 w_14 ∧ (leaveV ds w_14 fun W => vLd (.agg 5) (ρ 2) W fun r_4 => K (.tuple #[r_4, v62_3]) W)) ∧
  (True))) ∧
  (True))
  else
  vBin (.int .i64) .eql (ρ 27) (.int .i64 4) fun v51 =>
  vBool v51 fun c_5 => if c_5 = true then
   (vIx .string .bad (ρ 0) (.int .i64 2) fun v53 =>
   vConv (.int .i64) v53 fun v54 =>
   vFA (some 2) (ρ 4) fun v55 =>
   vSt (some 1) v55 v54 w fun w_15 =>
   vIx .string .bad (ρ 0) (.int .i64 3) fun v57 =>
   vConv (.int .i64) v57 fun v58 =>
   vFA (some 4) (ρ 4) fun v59 =>
   vSt (some 1) v59 v58 w_15 fun w_16 =>
   drawF2 w_16 fun S_6 T_4 =>
  vLdS S_6 (.agg 5) (ρ 4) fun v60_4 =>
  vLdS (fun w => S_6 w ∨ T_4 w) (.agg 5) (ρ 4) fun v61_4 =>
  (CallK Tryd.prog 11 #[v61_4] w_16.drew fun v62_4 w_17 =>
  S_6 w_17 ∧ ((vSt (some 5) (ρ 2) v60_4 w_17 fun w_18 =>
  T_4 w_18 ∧ (leaveV ds w_18 fun W => vLd (.agg 5) (ρ 2) W fun r_5 => K (.tuple #[r_5, v62_4]) W)) ∧
  (True))) ∧
  (True))
  else
  vIx .string .bad (ρ 0) (.int .i64 2) fun v29 =>
  vConv (.int .i64) v29 fun v30 =>
  vFA (some 2) (ρ 4) fun v31 =>
  vSt (some 1) v31 v30 w fun w_19 =>
  vIx .string .bad (ρ 0) (.int .i64 3) fun v33 =>
  vConv (.int .i64) v33 fun v34 =>
  vFA (some 3) (ρ 4) fun v35 =>
  vSt (some 1) v35 v34 w_19 fun w_20 =>
  drawF2 w_20 fun S_7 T_5 =>
  vLdS S_7 (.agg 5) (ρ 4) fun v60_5 =>
  vLdS (fun w => S_7 w ∨ T_5 w) (.agg 5) (ρ 4) fun v61_5 =>
  (CallK Tryd.prog 11 #[v61_5] w_20.drew fun v62_5 w_21 =>
  S_7 w_21 ∧ ((vSt (some 5) (ρ 2) v60_5 w_21 fun w_22 =>
  T_5 w_22 ∧ (leaveV ds w_22 fun W => vLd (.agg 5) (ρ 2) W fun r_6 => K (.tuple #[r_6, v62_5]) W)) ∧
  (True))) ∧
  (True)

/-- gatehouse/gatehouseref02.Decode -/
def F22 (t0 : Value) (w : World) (K : Value → World → Prop) : Prop :=
  vAlloc Tryd.prog 23 w fun v2 w =>
  vLen .string t0 fun v7 =>
  vBin (.int .i64) .neq v7 (.int .i64 4) fun v8 =>
  vBool v8 fun c => if c = true then
   (vBuild Tryd.prog 23 [] fun v9 =>
   vSt (some 5) v2 v9 w fun w_2 =>
   vLd (.agg 5) v2 w_2 fun r => K (.tuple #[r, (.bool false)]) w_2)
  else
  drawF w fun S =>
  vIx .string .bad t0 (.int .i64 0) fun v11 =>
  vConv (.int .i64) v11 fun v12 =>
  vIx .string .bad t0 (.int .i64 1) fun v14 =>
  vConv (.int .i64) v14 fun v15 =>
  vBuild Tryd.prog 23 [(0, v12), (1, v15)] fun v16 =>
  (vAlloc Tryd.prog 23 w.drew fun v4 w_3 =>
  S w_3 ∧ ((vSt (some 5) v4 v16 w_3 fun w_4 =>
  (drawF w_4 fun S_2 =>
  vIx .string .bad t0 (.int .i64 2) fun v18 =>
  vConv (.int .i64) v18 fun v19 =>
  vIx .string .bad t0 (.int .i64 3) fun v21 =>
  vConv (.int .i64) v21 fun v22 =>
  vBin (.int .i64) .mul (.int .i64 256) v22 fun v23 =>
  vBin (.int .i64) .add v19 v23 fun v24 =>
  vFA (some 0) v4 fun v25 =>
  vLd .one v25 w_4.drew fun v26 =>
  CallK Tryd.prog 25 #[v26] w_4.drew fun v27 w_5 =>
  vBin (.int .i64) .eql v27 (.int .i64 1) fun v37 =>
  vBool v37 fun c_2 => if c_2 = true then
   (vFA (some 4) v4 fun v39 =>
   vSt (some 1) v39 v24 w_5 fun w_6 =>
   drawF2 w_6 fun S_3 T =>
  vLdS S_3 (.agg 5) v4 fun v60 =>
  vLdS (fun w => S_3 w ∨ T w) (.agg 5) v4 fun v61 =>
  (CallK Tryd.prog 11 #[v61] w_6.drew fun v62 w_7 =>
  S_3 w_7 ∧ ((vSt (some 5) v2 v60 w_7 fun w_8 =>
  T w_8 ∧ (vLd (.agg 5) v2 w_8 fun r_2 => K (.tuple #[r_2, v62]) w_8)) ∧
  (True))) ∧
  (True))
  else
  joinF [0, 2, 4, 5, 27, 40] (fun J2 =>
  vBin (.int .i64) .eql v27 (.int .i64 5) fun v41 =>
  vBool v41 fun c_3 => if c_3 = true then
   (J2 [t0, v2, v4, v24, v27, v41] [] w_5)
  else
  vBin (.int .i64) .eql v27 (.int .i64 6) fun v42 =>
  J2 [t0, v2, v4, v24, v27, v42] [] w_5)
  (F22J2 K))) ∧
  (True))) ∧
  (True)

def tab22 : Tab := { sel := [], plan := [(3, (.take 0 (.take 1 (.take 2 (.take 3 (.take 4 (.take 5 (.take 6 (.alt 7 (.alt 8 .done .stop) .stop))))))))), (4, (.take 0 (.take 1 (.take 2 (.take 3 (.take 4 (.take 5 (.take 6 (.take 7 (.take 8 .done)))))))))), (18, (.take 0 (.take 1 (.alt 2 (.alt 3 (.take 4 .done) .stop) .stop))))], join := [(12, [0, 2, 4, 5, 27, 40])] }

theorem F22_eq (t0 : Value) (w : World) (K : Value → World → Prop) : enterV Tryd.prog tab22 Tryd.f22 [t0] w K = F22 t0 w K := by kernel_rfl

theorem F22_ok {t0 : Value} {w : World} {K : Value → World → Prop} (h : F22 t0 w K) : Ret Tryd.prog 22 #[t0] w K :=
  enter_sound (T := tab22) (args := [t0]) Tryd.func22 Tryd.call22 mixed (by kernel_rfl) (by rw [F22_eq]; exact h)

/-- gatehouse/gatehouseref02.Name -/
def F24 (t0 : Value) (w : World) (K : Value → World → Prop) : Prop :=
  vBin (.int .i64) .eql t0 (.int .i64 0) fun v5 =>
  vBool v5 fun c => if c = true then
   (K (.string ⟨#[104, 97, 108, 116]⟩) w)
  else
  vBin (.int .i64) .eql t0 (.int .i64 1) fun v7 =>
  vBool v7 fun c_2 => if c_2 = true then
   (K (.string ⟨#[110, 111, 112]⟩) w)
  else
  vBin (.int .i64) .eql t0 (.int .i64 2) fun v9 =>
  vBool v9 fun c_3 => if c_3 = true then
   (K (.string ⟨#[115, 121, 115]⟩) w)
  else
  vBin (.int .i64) .eql t0 (.int .i64 3) fun v11 =>
  vBool v11 fun c_4 => if c_4 = true then
   (K (.string ⟨#[115, 101, 116]⟩) w)
  else
  vBin (.int .i64) .eql t0 (.int .i64 4) fun v13 =>
  vBool v13 fun c_5 => if c_5 = true then
   (K (.string ⟨#[109, 111, 114, 101]⟩) w)
  else
  vBin (.int .i64) .eql t0 (.int .i64 5) fun v15 =>
  vBool v15 fun c_6 => if c_6 = true then
   (K (.string ⟨#[109, 111, 118, 101]⟩) w)
  else
  vBin (.int .i64) .eql t0 (.int .i64 6) fun v17 =>
  vBool v17 fun c_7 => if c_7 = true then
   (K (.string ⟨#[97, 100, 100]⟩) w)
  else
  vBin (.int .i64) .eql t0 (.int .i64 7) fun v19 =>
  vBool v19 fun c_8 => if c_8 = true then
   (K (.string ⟨#[115, 117, 98]⟩) w)
  else
  vBin (.int .i64) .eql t0 (.int .i64 8) fun v21 =>
  vBool v21 fun c_9 => if c_9 = true then
   (K (.string ⟨#[109, 117, 108]⟩) w)
  else
  vBin (.int .i64) .eql t0 (.int .i64 9) fun v23 =>
  vBool v23 fun c_10 => if c_10 = true then
   (K (.string ⟨#[100, 105, 118]⟩) w)
  else
  vBin (.int .i64) .eql t0 (.int .i64 10) fun v25 =>
  vBool v25 fun c_11 => if c_11 = true then
   (K (.string ⟨#[109, 111, 100]⟩) w)
  else
  vBin (.int .i64) .eql t0 (.int .i64 11) fun v27 =>
  vBool v27 fun c_12 => if c_12 = true then
   (K (.string ⟨#[97, 110, 100]⟩) w)
  else
  vBin (.int .i64) .eql t0 (.int .i64 12) fun v29 =>
  vBool v29 fun c_13 => if c_13 = true then
   (K (.string ⟨#[111, 114]⟩) w)
  else
  vBin (.int .i64) .eql t0 (.int .i64 13) fun v31 =>
  vBool v31 fun c_14 => if c_14 = true then
   (K (.string ⟨#[120, 111, 114]⟩) w)
  else
  vBin (.int .i64) .eql t0 (.int .i64 14) fun v33 =>
  vBool v33 fun c_15 => if c_15 = true then
   (K (.string ⟨#[115, 104, 108]⟩) w)
  else
  vBin (.int .i64) .eql t0 (.int .i64 15) fun v35 =>
  vBool v35 fun c_16 => if c_16 = true then
   (K (.string ⟨#[115, 104, 114]⟩) w)
  else
  vBin (.int .i64) .eql t0 (.int .i64 16) fun v37 =>
  vBool v37 fun c_17 => if c_17 = true then
   (K (.string ⟨#[108, 101, 115, 115]⟩) w)
  else
  vBin (.int .i64) .eql t0 (.int .i64 17) fun v39 =>
  vBool v39 fun c_18 => if c_18 = true then
   (K (.string ⟨#[115, 97, 109, 101]⟩) w)
  else
  vBin (.int .i64) .eql t0 (.int .i64 18) fun v41 =>
  vBool v41 fun c_19 => if c_19 = true then
   (K (.string ⟨#[108, 111, 97, 100]⟩) w)
  else
  vBin (.int .i64) .eql t0 (.int .i64 19) fun v43 =>
  vBool v43 fun c_20 => if c_20 = true then
   (K (.string ⟨#[107, 101, 101, 112]⟩) w)
  else
  vBin (.int .i64) .eql t0 (.int .i64 20) fun v45 =>
  vBool v45 fun c_21 => if c_21 = true then
   (K (.string ⟨#[112, 117, 108, 108]⟩) w)
  else
  vBin (.int .i64) .eql t0 (.int .i64 21) fun v47 =>
  vBool v47 fun c_22 => if c_22 = true then
   (K (.string ⟨#[112, 117, 115, 104]⟩) w)
  else
  vBin (.int .i64) .eql t0 (.int .i64 22) fun v49 =>
  vBool v49 fun c_23 => if c_23 = true then
   (K (.string ⟨#[103, 111]⟩) w)
  else
  vBin (.int .i64) .eql t0 (.int .i64 23) fun v51 =>
  vBool v51 fun c_24 => if c_24 = true then
   (K (.string ⟨#[122, 101, 114, 111]⟩) w)
  else
  vBin (.int .i64) .eql t0 (.int .i64 24) fun v53 =>
  vBool v53 fun c_25 => if c_25 = true then
   (K (.string ⟨#[110, 111, 116]⟩) w)
  else
  vBin (.int .i64) .eql t0 (.int .i64 25) fun v55 =>
  vBool v55 fun c_26 => if c_26 = true then
   (K (.string ⟨#[99, 97, 108, 108]⟩) w)
  else
  vBin (.int .i64) .eql t0 (.int .i64 26) fun v57 =>
  vBool v57 fun c_27 => if c_27 = true then
   (K (.string ⟨#[98, 97, 99, 107]⟩) w)
  else
  K (.string ⟨#[]⟩) w

def tab24 : Tab := { sel := [], plan := [], join := [] }

theorem F24_eq (t0 : Value) (w : World) (K : Value → World → Prop) : enterV Tryd.prog tab24 Tryd.f24 [t0] w K = F24 t0 w K := by kernel_rfl

theorem F24_ok {t0 : Value} {w : World} {K : Value → World → Prop} (h : F24 t0 w K) : Ret Tryd.prog 24 #[t0] w K :=
  enter_sound (T := tab24) (args := [t0]) Tryd.func24 Tryd.call24 mixed (by kernel_rfl) (by rw [F24_eq]; exact h)

def F25J5 (K : Value → World → Prop) (ρ : Env) (ds : List Nat) (w : World) : Prop :=
  vBool (ρ 24) fun c_4 => if c_4 = true then
   (leaveV ds w fun W => K (.int .i64 4) W)
  else
  vBin (.int .i64) .eql (ρ 0) (.int .i64 22) fun v33 =>
  vBool v33 fun c_5 => if c_5 = true then
   (leaveV ds w fun W => K (.int .i64 5) W)
  else
  vBin (.int .i64) .eql (ρ 0) (.int .i64 23) fun v36 =>
  vBool v36 fun g_4 => if g_4 = true then
  (leaveV ds w fun W => K (.int .i64 6) W)
  else
  (vBin (.int .i64) .eql (ρ 0) (.int .i64 24) fun v39 =>
  vBool v39 fun c_6 => if c_6 = true then
   (leaveV ds w fun W => K (.int .i64 6) W)
  else
  leaveV ds w fun W => K (.int .i64 0) W)

def F25J3 (K : Value → World → Prop) (ρ : Env) (ds : List Nat) (w : World) : Prop :=
  vBool (ρ 10) fun c_2 => if c_2 = true then
   (leaveV ds w fun W => K (.int .i64 2) W)
  else
  vBin (.int .i64) .geq (ρ 0) (.int .i64 6) fun v19 =>
  vBool v19 fun g_2 => if g_2 = true then
  (vBin (.int .i64) .leq (ρ 0) (.int .i64 17) fun v22 =>
  vBool v22 fun c_3 => if c_3 = true then
   (leaveV ds w fun W => K (.int .i64 3) W)
  else
  joinF [0, 24] (fun J5 =>
  vBin (.int .i64) .geq (ρ 0) (.int .i64 18) fun v26 =>
  vBool v26 fun g_3 => if g_3 = true then
  (vBin (.int .i64) .leq (ρ 0) (.int .i64 21) fun v29 =>
  J5 [(ρ 0), v29] ds w)
  else
  (J5 [(ρ 0), (.bool false)] ds w))
  (F25J5 K))
  else
  (joinF [0, 24] (fun J5 =>
  vBin (.int .i64) .geq (ρ 0) (.int .i64 18) fun v26_2 =>
  vBool v26_2 fun g_4 => if g_4 = true then
  (vBin (.int .i64) .leq (ρ 0) (.int .i64 21) fun v29_2 =>
  J5 [(ρ 0), v29_2] ds w)
  else
  (J5 [(ρ 0), (.bool false)] ds w))
  (F25J5 K))

/-- gatehouse/gatehouseref02.Shape -/
def F25 (t0 : Value) (w : World) (K : Value → World → Prop) : Prop :=
  vBin (.int .i64) .eql t0 (.int .i64 3) fun v5 =>
  vBool v5 fun g => if g = true then
  (K (.int .i64 1) w)
  else
  (vBin (.int .i64) .eql t0 (.int .i64 4) fun v8 =>
  vBool v8 fun c => if c = true then
   (K (.int .i64 1) w)
  else
  joinF [0, 10] (fun J3 =>
  vBin (.int .i64) .eql t0 (.int .i64 5) fun v12 =>
  vBool v12 fun g_2 => if g_2 = true then
  (J3 [t0, (.bool true)] [] w)
  else
  (vBin (.int .i64) .eql t0 (.int .i64 25) fun v15 =>
  J3 [t0, v15] [] w))
  (F25J3 K))

def tab25 : Tab := { sel := [], plan := [], join := [(8, [0, 24]), (4, [0, 10])] }

theorem F25_eq (t0 : Value) (w : World) (K : Value → World → Prop) : enterV Tryd.prog tab25 Tryd.f25 [t0] w K = F25 t0 w K := by kernel_rfl

theorem F25_ok {t0 : Value} {w : World} {K : Value → World → Prop} (h : F25 t0 w K) : Ret Tryd.prog 25 #[t0] w K :=
  enter_sound (T := tab25) (args := [t0]) Tryd.func25 Tryd.call25 mixed (by kernel_rfl) (by rw [F25_eq]; exact h)

/-- gatehouse/gatehouseref02.reg -/
def F26 (t0 : Value) (w : World) (K : Value → World → Prop) : Prop :=
  vBin (.int .i64) .geq t0 (.int .i64 0) fun v4 =>
  vBool v4 fun g => if g = true then
  (vBin (.int .i64) .leq t0 (.int .i64 15) fun v7 =>
  K v7 w)
  else
  (K (.bool false) w)

def tab26 : Tab := { sel := [], plan := [], join := [] }

theorem F26_eq (t0 : Value) (w : World) (K : Value → World → Prop) : enterV Tryd.prog tab26 Tryd.f26 [t0] w K = F26 t0 w K := by kernel_rfl

theorem F26_ok {t0 : Value} {w : World} {K : Value → World → Prop} (h : F26 t0 w K) : Ret Tryd.prog 26 #[t0] w K :=
  enter_sound (T := tab26) (args := [t0]) Tryd.func26 Tryd.call26 mixed (by kernel_rfl) (by rw [F26_eq]; exact h)

/-- gatehouse/gatehouseref02.way -/
def F27 (t0 : Value) (w : World) (K : Value → World → Prop) : Prop :=
  vBin (.int .i64) .geq t0 (.int .i64 (-32768)) fun v4 =>
  vBool v4 fun g => if g = true then
  (vBin (.int .i64) .leq t0 (.int .i64 32767) fun v7 =>
  K v7 w)
  else
  (K (.bool false) w)

def tab27 : Tab := { sel := [], plan := [], join := [] }

theorem F27_eq (t0 : Value) (w : World) (K : Value → World → Prop) : enterV Tryd.prog tab27 Tryd.f27 [t0] w K = F27 t0 w K := by kernel_rfl

theorem F27_ok {t0 : Value} {w : World} {K : Value → World → Prop} (h : F27 t0 w K) : Ret Tryd.prog 27 #[t0] w K :=
  enter_sound (T := tab27) (args := [t0]) Tryd.func27 Tryd.call27 mixed (by kernel_rfl) (by rw [F27_eq]; exact h)

def F28J7 (K : Value → World → Prop) (ρ : Env) (ds : List Nat) (w : World) : Prop :=
  vBool (ρ 58) fun c_7 => if c_7 = true then
   (vFA (some 1) (ρ 4) fun v65 =>
   vSt (some 1) v65 (.int .i64 1) w fun w_18 =>
   vFA (some 2) (ρ 4) fun v66 =>
   vSt (some 1) v66 (.int .i64 3) w_18 fun w_19 =>
   vLd (.agg 3) (ρ 4) w_19 fun v67_6 =>
  vSt (some 3) (ρ 2) v67_6 w_19 fun w_20 =>
  leaveV ds w_20 fun W => vLd (.agg 3) (ρ 2) W fun r_7 => K r_7 W)
  else
  vLd (.agg 3) (ρ 4) w fun v67_7 =>
  vSt (some 3) (ρ 2) v67_7 w fun w_21 =>
  leaveV ds w_21 fun W => vLd (.agg 3) (ρ 2) W fun r_8 => K r_8 W

def F28J6 (K : Value → World → Prop) (ρ : Env) (ds : List Nat) (w : World) : Prop :=
  vBool (ρ 45) fun c_5 => if c_5 = true then
   (vFA (some 1) (ρ 4) fun v52 =>
   vSt (some 1) v52 (.int .i64 2) w fun w_13 =>
   vFA (some 2) (ρ 4) fun v53 =>
   vSt (some 1) v53 (.int .i64 2) w_13 fun w_14 =>
   vLd (.agg 3) (ρ 4) w_14 fun v67_4 =>
  vSt (some 3) (ρ 2) v67_4 w_14 fun w_15 =>
  leaveV ds w_15 fun W => vLd (.agg 3) (ρ 2) W fun r_5 => K r_5 W)
  else
  vBin (.int .i64) .eql (ρ 0) (.int .i64 22) fun v56 =>
  vBool v56 fun c_6 => if c_6 = true then
   (vFA (some 2) (ρ 4) fun v57 =>
   vSt (some 1) v57 (.int .i64 3) w fun w_16 =>
   vLd (.agg 3) (ρ 4) w_16 fun v67_5 =>
  vSt (some 3) (ρ 2) v67_5 w_16 fun w_17 =>
  leaveV ds w_17 fun W => vLd (.agg 3) (ρ 2) W fun r_6 => K r_6 W)
  else
  joinF [2, 4, 58] (fun J7 =>
  vBin (.int .i64) .eql (ρ 0) (.int .i64 23) fun v60 =>
  vBool v60 fun g => if g = true then
  (J7 [(ρ 2), (ρ 4), (.bool true)] ds w)
  else
  (vBin (.int .i64) .eql (ρ 0) (.int .i64 24) fun v63 =>
  J7 [(ρ 2), (ρ 4), v63] ds w))
  (F28J7 K)

def F28J5 (K : Value → World → Prop) (ρ : Env) (ds : List Nat) (w : World) : Prop :=
  vBool (ρ 37) fun c_4 => if c_4 = true then
   (vFA (some 1) (ρ 4) fun v44 =>
   vSt (some 1) v44 (.int .i64 3) w fun w_11 =>
   vLd (.agg 3) (ρ 4) w_11 fun v67_3 =>
  vSt (some 3) (ρ 2) v67_3 w_11 fun w_12 =>
  leaveV ds w_12 fun W => vLd (.agg 3) (ρ 2) W fun r_4 => K r_4 W)
  else
  joinF [0, 2, 4, 45] (fun J6 =>
  vBin (.int .i64) .geq (ρ 0) (.int .i64 18) fun v47 =>
  vBool v47 fun g => if g = true then
  (vBin (.int .i64) .leq (ρ 0) (.int .i64 21) fun v50 =>
  J6 [(ρ 0), (ρ 2), (ρ 4), v50] ds w)
  else
  (J6 [(ρ 0), (ρ 2), (ρ 4), (.bool false)] ds w))
  (F28J6 K)

def F28J4 (K : Value → World → Prop) (ρ : Env) (ds : List Nat) (w : World) : Prop :=
  vBool (ρ 29) fun c_3 => if c_3 = true then
   (vFA (some 1) (ρ 4) fun v36 =>
   vSt (some 1) v36 (.int .i64 2) w fun w_9 =>
   vLd (.agg 3) (ρ 4) w_9 fun v67_2 =>
  vSt (some 3) (ρ 2) v67_2 w_9 fun w_10 =>
  leaveV ds w_10 fun W => vLd (.agg 3) (ρ 2) W fun r_3 => K r_3 W)
  else
  joinF [0, 2, 4, 37] (fun J5 =>
  vBin (.int .i64) .geq (ρ 0) (.int .i64 6) fun v39 =>
  vBool v39 fun g => if g = true then
  (vBin (.int .i64) .leq (ρ 0) (.int .i64 17) fun v42 =>
  J5 [(ρ 0), (ρ 2), (ρ 4), v42] ds w)
  else
  (J5 [(ρ 0), (ρ 2), (ρ 4), (.bool false)] ds w))
  (F28J5 K)

def F28J3 (K : Value → World → Prop) (ρ : Env) (ds : List Nat) (w : World) : Prop :=
  vBool (ρ 20) fun c_2 => if c_2 = true then
   (vFA (some 1) (ρ 4) fun v27 =>
   vSt (some 1) v27 (.int .i64 1) w fun w_6 =>
   vFA (some 2) (ρ 4) fun v28 =>
   vSt (some 1) v28 (.int .i64 1) w_6 fun w_7 =>
   vLd (.agg 3) (ρ 4) w_7 fun v67 =>
  vSt (some 3) (ρ 2) v67 w_7 fun w_8 =>
  leaveV ds w_8 fun W => vLd (.agg 3) (ρ 2) W fun r_2 => K r_2 W)
  else
  joinF [0, 2, 4, 29] (fun J4 =>
  vBin (.int .i64) .eql (ρ 0) (.int .i64 5) fun v31 =>
  vBool v31 fun g => if g = true then
  (J4 [(ρ 0), (ρ 2), (ρ 4), (.bool true)] ds w)
  else
  (vBin (.int .i64) .eql (ρ 0) (.int .i64 25) fun v34 =>
  J4 [(ρ 0), (ρ 2), (ρ 4), v34] ds w))
  (F28J4 K)

def F28J1 (K : Value → World → Prop) (ρ : Env) (ds : List Nat) (w : World) : Prop :=
  vBool (ρ 13) fun c => if c = true then
   (vBuild Tryd.prog 52 [] fun v14 =>
   vSt (some 3) (ρ 2) v14 w fun w_3 =>
   leaveV ds w_3 fun W => vLd (.agg 3) (ρ 2) W fun r => K r W)
  else
  vIA (.slice 1) (ρ 3) (ρ 0) fun v17 =>
  vLd .one v17 w fun v18 =>
  vBuild Tryd.prog 52 [(0, v18)] fun v19 =>
  vAlloc Tryd.prog 52 w fun v4 w_4 =>
  vSt (some 3) v4 v19 w_4 fun w_5 =>
  joinF [0, 2, 4, 20] (fun J3 =>
  vBin (.int .i64) .eql (ρ 0) (.int .i64 3) fun v22 =>
  vBool v22 fun g => if g = true then
  (J3 [(ρ 0), (ρ 2), v4, (.bool true)] ds w_5)
  else
  (vBin (.int .i64) .eql (ρ 0) (.int .i64 4) fun v25 =>
  J3 [(ρ 0), (ρ 2), v4, v25] ds w_5))
  (F28J3 K)

/-- gatehouse/isa.shapeOf -/
def F28 (t0 : Value) (w : World) (K : Value → World → Prop) : Prop :=
  vAlloc Tryd.prog 52 w fun v2 w =>
  CallK Tryd.prog 42 #[(.string ⟨#[104, 97, 108, 116, 32, 110, 111, 112, 32, 115, 121, 115, 32, 115, 101, 116, 32, 109, 111, 114, 101, 32, 109, 111, 118, 101, 32, 97, 100, 100, 32, 115, 117, 98, 32, 109, 117, 108, 32, 100, 105, 118, 32, 109, 111, 100, 32, 97, 110, 100, 32, 111, 114, 32, 120, 111, 114, 32, 115, 104, 108, 32, 115, 104, 114, 32, 108, 101, 115, 115, 32, 115, 97, 109, 101, 32, 108, 111, 97, 100, 32, 107, 101, 101, 112, 32, 112, 117, 108, 108, 32, 112, 117, 115, 104, 32, 103, 111, 32, 122, 101, 114, 111, 32, 110, 111, 116, 32, 99, 97, 108, 108, 32, 98, 97, 99, 107]⟩)] w fun v5 w_2 =>
  joinF [0, 2, 3, 13] (fun J1 =>
  vBin (.int .i64) .lss t0 (.int .i64 0) fun v7 =>
  vBool v7 fun g => if g = true then
  (J1 [t0, v2, v5, (.bool true)] [] w_2)
  else
  (vLen (.slice 1) v5 fun v11 =>
  vBin (.int .i64) .geq t0 v11 fun v12 =>
  J1 [t0, v2, v5, v12] [] w_2))
  (F28J1 K)

def tab28 : Tab := { sel := [], plan := [], join := [(16, [2, 4, 58]), (12, [0, 2, 4, 45]), (10, [0, 2, 4, 37]), (8, [0, 2, 4, 29]), (6, [0, 2, 4, 20]), (3, [0, 2, 3, 13])] }

theorem F28_eq (t0 : Value) (w : World) (K : Value → World → Prop) : enterV Tryd.prog tab28 Tryd.f28 [t0] w K = F28 t0 w K := by kernel_rfl

theorem F28_ok {t0 : Value} {w : World} {K : Value → World → Prop} (h : F28 t0 w K) : Ret Tryd.prog 28 #[t0] w K :=
  enter_sound (T := tab28) (args := [t0]) Tryd.func28 Tryd.call28 mixed (by kernel_rfl) (by rw [F28_eq]; exact h)

/-- gatehouse/isa.fits -/
def F31 (t0 : Value) (t1 : Value) (w : World) (K : Value → World → Prop) : Prop :=
  vBin (.int .i64) .eql t0 (.int .i64 1) fun v7 =>
  vBool v7 fun c => if c = true then
   (vBin (.int .i64) .shr t1 (.int .u64 16) fun v9 =>
   vBin (.int .i64) .eql v9 (.int .i64 0) fun v10 =>
   K v10 w)
  else
  vBin (.int .i64) .eql t0 (.int .i64 2) fun v12 =>
  vBool v12 fun c_2 => if c_2 = true then
   (vBin (.int .i64) .shr t1 (.int .u64 8) fun v14 =>
   vBin (.int .i64) .eql v14 (.int .i64 0) fun v15 =>
   K v15 w)
  else
  vBin (.int .i64) .eql t0 (.int .i64 3) fun v17 =>
  vBool v17 fun c_3 => if c_3 = true then
   (vConv (.int .i16) t1 fun v20 =>
   vConv (.int .i64) v20 fun v21 =>
   vBin (.int .i64) .eql t1 v21 fun v22 =>
   K v22 w)
  else
  vBin (.int .i64) .eql t1 (.int .i64 0) fun v24 =>
  K v24 w

def tab31 : Tab := { sel := [], plan := [], join := [] }

theorem F31_eq (t0 : Value) (t1 : Value) (w : World) (K : Value → World → Prop) : enterV Tryd.prog tab31 Tryd.f31 [t0, t1] w K = F31 t0 t1 w K := by kernel_rfl

theorem F31_ok {t0 : Value} {t1 : Value} {w : World} {K : Value → World → Prop} (h : F31 t0 t1 w K) : Ret Tryd.prog 31 #[t0, t1] w K :=
  enter_sound (T := tab31) (args := [t0, t1]) Tryd.func31 Tryd.call31 mixed (by kernel_rfl) (by rw [F31_eq]; exact h)

/-- gatehouse/gatehouseref02.r -/
def F32 (t0 : Value) (w : World) (K : Value → World → Prop) : Prop :=
  CallK Tryd.prog 47 #[t0] w fun v4 w =>
  vBin .string .add (.string ⟨#[32, 114]⟩) v4 fun v5 =>
  K v5 w

def tab32 : Tab := { sel := [], plan := [], join := [] }

theorem F32_eq (t0 : Value) (w : World) (K : Value → World → Prop) : enterV Tryd.prog tab32 Tryd.f32 [t0] w K = F32 t0 w K := by kernel_rfl

theorem F32_ok {t0 : Value} {w : World} {K : Value → World → Prop} (h : F32 t0 w K) : Ret Tryd.prog 32 #[t0] w K :=
  enter_sound (T := tab32) (args := [t0]) Tryd.func32 Tryd.call32 mixed (by kernel_rfl) (by rw [F32_eq]; exact h)

/-- gatehouse/gatehouseref02.Number -/
def F33 (t0 : Value) (w : World) (K : Value → World → Prop) : Prop :=
  vBin (.int .i64) .lss t0 (.int .i64 0) fun v4 =>
  vBool v4 fun c => if c = true then
   (vUn .neg t0 fun v6 =>
   CallK Tryd.prog 47 #[v6] w fun v7 w =>
   vBin .string .add (.string ⟨#[45]⟩) v7 fun v8 =>
   K v8 w)
  else
  CallK Tryd.prog 47 #[t0] w fun v10 w_2 =>
  K v10 w_2

def tab33 : Tab := { sel := [], plan := [], join := [] }

theorem F33_eq (t0 : Value) (w : World) (K : Value → World → Prop) : enterV Tryd.prog tab33 Tryd.f33 [t0] w K = F33 t0 w K := by kernel_rfl

theorem F33_ok {t0 : Value} {w : World} {K : Value → World → Prop} (h : F33 t0 w K) : Ret Tryd.prog 33 #[t0] w K :=
  enter_sound (T := tab33) (args := [t0]) Tryd.func33 Tryd.call33 mixed (by kernel_rfl) (by rw [F33_eq]; exact h)

def F34L1 (K : Value → World → Prop) (ρ : Env) (ds : List Nat) (w : World) (ag1 : List Value → List Nat → World → Prop) : Prop :=
  vBin (.int .i64) .lss (ρ 45) (ρ 44) fun v46 =>
  vBool v46 fun c_3 => if c_3 = true then
   (vBin (.int .i64) .add (.int .i64 1) (ρ 45) fun v51 =>
  vIA (.slice 1) (ρ 5) v51 fun v52 =>
  vLd .one v52 w fun v53 =>
  CallK Tryd.prog 50 #[v53, (.string ⟨#[114]⟩)] w fun v54 w_11 =>
  vExt v54 0 fun v55 =>
  vExt v54 1 fun v56 =>
  CallK Tryd.prog 35 #[v55] w_11 fun v59 w_12 =>
  vExt v59 0 fun v60 =>
  vExt v59 1 fun v61 =>
  vUn .not v56 fun v63 =>
  vBool v63 fun g_2 => if g_2 = true then
  (vBuild Tryd.prog 23 [] fun v82 =>
  vSt (some 5) (ρ 2) v82 w_12 fun w_13 =>
  leaveV ds w_13 fun W => vLd (.agg 5) (ρ 2) W fun r_2 => K (.tuple #[r_2, (.string ⟨#[]⟩), (.bool false)]) W)
  else
  (vBin .inil .neq v61 .nilIface fun v66 =>
  vBool v66 fun g_3 => if g_3 = true then
  (vBuild Tryd.prog 23 [] fun v82_2 =>
  vSt (some 5) (ρ 2) v82_2 w_12 fun w_14 =>
  leaveV ds w_14 fun W => vLd (.agg 5) (ρ 2) W fun r_3 => K (.tuple #[r_3, (.string ⟨#[]⟩), (.bool false)]) W)
  else
  (vBin (.int .i64) .lss v60 (.int .i64 0) fun v70 =>
  vBool v70 fun g_4 => if g_4 = true then
  (vBuild Tryd.prog 23 [] fun v82_3 =>
  vSt (some 5) (ρ 2) v82_3 w_12 fun w_15 =>
  leaveV ds w_15 fun W => vLd (.agg 5) (ρ 2) W fun r_4 => K (.tuple #[r_4, (.string ⟨#[]⟩), (.bool false)]) W)
  else
  (vBin (.int .i64) .geq v60 (.int .i64 16) fun v74 =>
  vBool v74 fun g_5 => if g_5 = true then
  (vBuild Tryd.prog 23 [] fun v82_4 =>
  vSt (some 5) (ρ 2) v82_4 w_12 fun w_16 =>
  leaveV ds w_16 fun W => vLd (.agg 5) (ρ 2) W fun r_5 => K (.tuple #[r_5, (.string ⟨#[]⟩), (.bool false)]) W)
  else
  (CallK Tryd.prog 29 #[v60] w_12 fun v78 w_17 =>
  vBin .string .neq v78 v55 fun v80 =>
  vBool v80 fun c_4 => if c_4 = true then
   (vBuild Tryd.prog 23 [] fun v82_5 =>
   vSt (some 5) (ρ 2) v82_5 w_17 fun w_18 =>
   leaveV ds w_18 fun W => vLd (.agg 5) (ρ 2) W fun r_6 => K (.tuple #[r_6, (.string ⟨#[]⟩), (.bool false)]) W)
  else
  vIA (.arr 3 1) (ρ 9) (ρ 45) fun v85 =>
  vSt (some 1) v85 v60 w_17 fun w_19 =>
  vBin (.int .i64) .add (ρ 45) (.int .i64 1) fun v86 =>
  ag1 [(ρ 2), (ρ 5), (ρ 6), (ρ 7), (ρ 8), (ρ 9), (ρ 44), v86] ds w_19)))))
  else
  drawF2 w fun S T =>
  vIA (.arr 3 1) (ρ 9) (.int .i64 0) fun v87 =>
  vLdS S .one v87 fun v88 =>
  vIA (.arr 3 1) (ρ 9) (.int .i64 1) fun v89 =>
  vLdS (fun w => S w ∨ T w) .one v89 fun v90 =>
  vIA (.arr 3 1) (ρ 9) (.int .i64 2) fun v91 =>
  vLdS (fun w => S w ∨ T w) .one v91 fun v92 =>
  vFA (some 1) (ρ 6) fun v93 =>
  (vSt (some 1) v93 v88 w.drew fun w_20 =>
  T w_20 ∧ (vFA (some 2) (ρ 6) fun v94 =>
  (vSt (some 1) v94 v90 w_20 fun w_21 =>
  T w_21 ∧ (vFA (some 3) (ρ 6) fun v95 =>
  (vSt (some 1) v95 v92 w_21 fun w_22 =>
  (vFA (some 2) (ρ 7) fun v96 =>
  vLd .one v96 w_22 fun v97 =>
  vBin (.int .i64) .eql v97 (.int .i64 0) fun v98 =>
  vBool v98 fun c_5 => if c_5 = true then
   (vLd (.agg 5) (ρ 6) w_22 fun v99 =>
   vSt (some 5) (ρ 2) v99 w_22 fun w_23 =>
   leaveV ds w_23 fun W => vLd (.agg 5) (ρ 2) W fun r_7 => K (.tuple #[r_7, (.string ⟨#[]⟩), (.bool true)]) W)
  else
  drawF2 w_22 fun S_2 T_2 =>
  vLdS S_2 (.agg 5) (ρ 6) fun v100 =>
  vBin (.int .i64) .sub (ρ 8) (.int .i64 1) fun v103 =>
  vIA (.slice 1) (ρ 5) v103 fun v104 =>
  vLdS (fun w => S_2 w ∨ T_2 w) .one v104 fun v105 =>
  (vSt (some 5) (ρ 2) v100 w_22.drew fun w_24 =>
  T_2 w_24 ∧ (leaveV ds w_24 fun W => vLd (.agg 5) (ρ 2) W fun r_8 => K (.tuple #[r_8, v105, (.bool true)]) W)) ∧
  (True))) ∧
  (True))) ∧
  (True))) ∧
  (True)

def F34J2 (K : Value → World → Prop) (ρ : Env) (ds : List Nat) (w : World) : Prop :=
  vBool (ρ 41) fun c_2 => if c_2 = true then
   (vBuild Tryd.prog 23 [] fun v42 =>
   vSt (some 5) (ρ 2) v42 w fun w_9 =>
   leaveV ds w_9 fun W => vLd (.agg 5) (ρ 2) W fun r => K (.tuple #[r, (.string ⟨#[]⟩), (.bool false)]) W)
  else
  vAlloc Tryd.prog 58 w fun v9 w_10 =>
  vFA (some 1) (ρ 7) fun v43 =>
  vLd .one v43 w_10 fun v44 =>
  loopF [2, 5, 6, 7, 8, 9, 44, 45] [(ρ 2), (ρ 5), (ρ 6), (ρ 7), (ρ 8), v9, v44, (.int .i64 0)] ds w_10 (F34L1 K)

/-- gatehouse/isa.read -/
def F34 (t0 : Value) (w : World) (K : Value → World → Prop) : Prop :=
  vAlloc Tryd.prog 23 w fun v2 w =>
  CallK Tryd.prog 48 #[t0, (.string ⟨#[32]⟩)] w fun v16 w_2 =>
  vIA (.slice 1) v16 (.int .i64 0) fun v18 =>
  vLd .one v18 w_2 fun v19 =>
  CallK Tryd.prog 49 #[v19] w_2 fun v20 w_3 =>
  vBuild Tryd.prog 23 [(0, v20)] fun v21 =>
  vAlloc Tryd.prog 23 w_3 fun v6 w_4 =>
  vSt (some 5) v6 v21 w_4 fun w_5 =>
  vFA (some 0) v6 fun v22 =>
  vLd .one v22 w_5 fun v23 =>
  CallK Tryd.prog 28 #[v23] w_5 fun v24 w_6 =>
  vAlloc Tryd.prog 52 w_6 fun v7 w_7 =>
  vSt (some 3) v7 v24 w_7 fun w_8 =>
  vFA (some 1) v7 fun v25 =>
  vLd .one v25 w_8 fun v26 =>
  vBin (.int .i64) .add (.int .i64 1) v26 fun v27 =>
  vFA (some 2) v7 fun v28 =>
  vLd .one v28 w_8 fun v29 =>
  vBin (.int .i64) .neq v29 (.int .i64 0) fun v30 =>
  vBool v30 fun c => if c = true then
   (vBin (.int .i64) .add v27 (.int .i64 1) fun v32 =>
   joinF [2, 5, 6, 7, 8, 41] (fun J2 =>
  vFA (some 0) v7 fun v33 =>
  vLd .one v33 w_8 fun v34 =>
  vBin .string .eql v34 (.string ⟨#[]⟩) fun v35 =>
  vBool v35 fun g => if g = true then
  (J2 [v2, v16, v6, v7, v32, (.bool true)] [] w_8)
  else
  (vLen (.slice 1) v16 fun v38 =>
  vBin (.int .i64) .neq v38 v32 fun v40 =>
  J2 [v2, v16, v6, v7, v32, v40] [] w_8))
  (F34J2 K))
  else
  joinF [2, 5, 6, 7, 8, 41] (fun J2 =>
  vFA (some 0) v7 fun v33_2 =>
  vLd .one v33_2 w_8 fun v34_2 =>
  vBin .string .eql v34_2 (.string ⟨#[]⟩) fun v35_2 =>
  vBool v35_2 fun g_2 => if g_2 = true then
  (J2 [v2, v16, v6, v7, v27, (.bool true)] [] w_8)
  else
  (vLen (.slice 1) v16 fun v38_2 =>
  vBin (.int .i64) .neq v38_2 v27 fun v40_2 =>
  J2 [v2, v16, v6, v7, v27, v40_2] [] w_8))
  (F34J2 K)

def tab34 : Tab := { sel := [(11, [2, 5, 6, 7, 8, 9, 44, 45])], plan := [(19, (.take 0 (.take 1 (.take 2 (.take 3 (.take 4 (.take 5 (.take 6 (.alt 7 (.take 8 (.alt 9 (.take 10 (.alt 11 .done .stop)) .stop)) .stop))))))))), (22, (.take 0 (.take 1 (.take 2 (.take 3 (.take 4 (.take 5 (.alt 6 (.take 7 (.take 8 .done)) .stop))))))))], join := [(8, [2, 5, 6, 7, 8, 41])] }

theorem F34_eq (t0 : Value) (w : World) (K : Value → World → Prop) : enterV Tryd.prog tab34 Tryd.f34 [t0] w K = F34 t0 w K := by kernel_rfl

theorem F34_ok {t0 : Value} {w : World} {K : Value → World → Prop} (h : F34 t0 w K) : Ret Tryd.prog 34 #[t0] w K :=
  enter_sound (T := tab34) (args := [t0]) Tryd.func34 Tryd.call34 mixed (by kernel_rfl) (by rw [F34_eq]; exact h)

def F36L1 (K : Value → World → Prop) (ρ : Env) (ds : List Nat) (w : World) (ag1 : List Value → List Nat → World → Prop) : Prop :=
  vLen .string (ρ 0) fun v11 =>
  vBin (.int .i64) .lss (ρ 7) v11 fun v12 =>
  vBool v12 fun c => if c = true then
   (vIx .string .bad (ρ 0) (ρ 7) fun v17 =>
  vBin (.int .u8) .eql v17 (ρ 1) fun v19 =>
  vBool v19 fun c_2 => if c_2 = true then
   (vBuildSlice Tryd.prog 43 1 [(0, (ρ 6))] w fun v22 w_2 =>
   vAppend Tryd.prog 43 43 (ρ 5) v22 w_2 fun v23 w_3 =>
   vBin (.int .i64) .add (ρ 7) (.int .i64 1) fun v14 =>
  ag1 [(ρ 0), (ρ 1), v23, (.string ⟨#[]⟩), v14] ds w_3)
  else
  vIx .string .bad (ρ 0) (ρ 7) fun v27 =>
  vBuildSlice Tryd.prog 54 1 [(0, v27)] w fun v28 w_4 =>
  vB2S v28 w_4 fun v29 =>
  vBin .string .add (ρ 6) v29 fun v30 =>
  vBin (.int .i64) .add (ρ 7) (.int .i64 1) fun v14_2 =>
  ag1 [(ρ 0), (ρ 1), (ρ 5), v30, v14_2] ds w_4)
  else
  vBuildSlice Tryd.prog 43 1 [(0, (ρ 6))] w fun v33 w_5 =>
  vAppend Tryd.prog 43 43 (ρ 5) v33 w_5 fun v34 w_6 =>
  leaveV ds w_6 fun W => K v34 W

/-- gatehouse/gatehouseref02.Words -/
def F36 (t0 : Value) (t1 : Value) (w : World) (K : Value → World → Prop) : Prop :=
  vBuildSlice Tryd.prog 43 0 [] w fun v8 w =>
  loopF [0, 1, 5, 6, 7] [t0, t1, v8, (.string ⟨#[]⟩), (.int .i64 0)] [] w (F36L1 K)

def tab36 : Tab := { sel := [(4, [0, 1, 5, 6, 7])], plan := [], join := [] }

theorem F36_eq (t0 : Value) (t1 : Value) (w : World) (K : Value → World → Prop) : enterV Tryd.prog tab36 Tryd.f36 [t0, t1] w K = F36 t0 t1 w K := by kernel_rfl

theorem F36_ok {t0 : Value} {t1 : Value} {w : World} {K : Value → World → Prop} (h : F36 t0 t1 w K) : Ret Tryd.prog 36 #[t0, t1] w K :=
  enter_sound (T := tab36) (args := [t0, t1]) Tryd.func36 Tryd.call36 mixed (by kernel_rfl) (by rw [F36_eq]; exact h)

/-- gatehouse/gatehouseref02.register -/
def F37 (t0 : Value) (w : World) (K : Value → World → Prop) : Prop :=
  vLen .string t0 fun v5 =>
  vBin (.int .i64) .lss v5 (.int .i64 2) fun v6 =>
  vBool v6 fun g => if g = true then
  (K (.tuple #[(.int .i64 0), (.bool false)]) w)
  else
  (vLen .string t0 fun v9 =>
  vBin (.int .i64) .gtr v9 (.int .i64 3) fun v10 =>
  vBool v10 fun g_2 => if g_2 = true then
  (K (.tuple #[(.int .i64 0), (.bool false)]) w)
  else
  (vIx .string .bad t0 (.int .i64 0) fun v14 =>
  vBin (.int .u8) .neq v14 (.int .u8 114) fun v15 =>
  vBool v15 fun c => if c = true then
   (K (.tuple #[(.int .i64 0), (.bool false)]) w)
  else
  vSlice .string t0 (some (.int .i64 1)) none fun v18 =>
  CallK Tryd.prog 38 #[v18] w fun v19 w =>
  vExt v19 0 fun v20 =>
  vExt v19 1 fun v21 =>
  K (.tuple #[v20, v21]) w))

def tab37 : Tab := { sel := [], plan := [], join := [] }

theorem F37_eq (t0 : Value) (w : World) (K : Value → World → Prop) : enterV Tryd.prog tab37 Tryd.f37 [t0] w K = F37 t0 w K := by kernel_rfl

theorem F37_ok {t0 : Value} {w : World} {K : Value → World → Prop} (h : F37 t0 w K) : Ret Tryd.prog 37 #[t0] w K :=
  enter_sound (T := tab37) (args := [t0]) Tryd.func37 Tryd.call37 mixed (by kernel_rfl) (by rw [F37_eq]; exact h)

def F38L1 (K : Value → World → Prop) (ρ : Env) (ds : List Nat) (w : World) (ag1 : List Value → List Nat → World → Prop) : Prop :=
  vLen .string (ρ 0) fun v28 =>
  vBin (.int .i64) .lss (ρ 6) v28 fun v29 =>
  vBool v29 fun c_3 => if c_3 = true then
   (vIx .string .bad (ρ 0) (ρ 6) fun v34 =>
  vBin (.int .u8) .lss v34 (.int .u8 48) fun v35 =>
  vBool v35 fun g_2 => if g_2 = true then
  (leaveV ds w fun W => K (.tuple #[(.int .i64 0), (.bool false)]) W)
  else
  (vIx .string .bad (ρ 0) (ρ 6) fun v39 =>
  vBin (.int .u8) .gtr v39 (.int .u8 57) fun v40 =>
  vBool v40 fun c_4 => if c_4 = true then
   (leaveV ds w fun W => K (.tuple #[(.int .i64 0), (.bool false)]) W)
  else
  vBin (.int .i64) .mul (.int .i64 10) (ρ 5) fun v43 =>
  vIx .string .bad (ρ 0) (ρ 6) fun v46 =>
  vBin (.int .u8) .sub v46 (.int .u8 48) fun v47 =>
  vConv (.int .i64) v47 fun v48 =>
  vBin (.int .i64) .add v43 v48 fun v49 =>
  vBin (.int .i64) .add (ρ 6) (.int .i64 1) fun v31 =>
  ag1 [(ρ 0), (ρ 4), v49, v31] ds w))
  else
  vBool (ρ 4) fun c_5 => if c_5 = true then
   (vUn .neg (ρ 5) fun v52 =>
   leaveV ds w fun W => K (.tuple #[v52, (.bool true)]) W)
  else
  leaveV ds w fun W => K (.tuple #[(ρ 5), (.bool true)]) W

def F38J3 (K : Value → World → Prop) (ρ : Env) (ds : List Nat) (w : World) : Prop :=
  vBool (ρ 25) fun c_2 => if c_2 = true then
   (leaveV ds w fun W => K (.tuple #[(.int .i64 0), (.bool false)]) W)
  else
  loopF [0, 4, 5, 6] [(ρ 0), (ρ 4), (.int .i64 0), (.int .i64 0)] ds w (F38L1 K)

def F38J1 (K : Value → World → Prop) (ρ : Env) (ds : List Nat) (w : World) : Prop :=
  vBool (ρ 4) fun c => if c = true then
   (vSlice .string (ρ 0) (some (.int .i64 1)) none fun v17 =>
   joinF [0, 4, 25] (fun J3 =>
  vLen .string v17 fun v19 =>
  vBin (.int .i64) .eql v19 (.int .i64 0) fun v20 =>
  vBool v20 fun g => if g = true then
  (J3 [v17, (ρ 4), (.bool true)] ds w)
  else
  (vLen .string v17 fun v23 =>
  vBin (.int .i64) .gtr v23 (.int .i64 6) fun v24 =>
  J3 [v17, (ρ 4), v24] ds w))
  (F38J3 K))
  else
  joinF [0, 4, 25] (fun J3 =>
  vLen .string (ρ 0) fun v19_2 =>
  vBin (.int .i64) .eql v19_2 (.int .i64 0) fun v20_2 =>
  vBool v20_2 fun g_2 => if g_2 = true then
  (J3 [(ρ 0), (ρ 4), (.bool true)] ds w)
  else
  (vLen .string (ρ 0) fun v23_2 =>
  vBin (.int .i64) .gtr v23_2 (.int .i64 6) fun v24_2 =>
  J3 [(ρ 0), (ρ 4), v24_2] ds w))
  (F38J3 K)

/-- gatehouse/gatehouseref02.Value -/
def F38 (t0 : Value) (w : World) (K : Value → World → Prop) : Prop :=
  joinF [0, 4] (fun J1 =>
  vLen .string t0 fun v8 =>
  vBin (.int .i64) .gtr v8 (.int .i64 0) fun v9 =>
  vBool v9 fun g => if g = true then
  (vIx .string .bad t0 (.int .i64 0) fun v12 =>
  vBin (.int .u8) .eql v12 (.int .u8 45) fun v13 =>
  J1 [t0, v13] [] w)
  else
  (J1 [t0, (.bool false)] [] w))
  (F38J1 K)

def tab38 : Tab := { sel := [(8, [0, 4, 5, 6])], plan := [], join := [(5, [0, 4, 25]), (2, [0, 4])] }

theorem F38_eq (t0 : Value) (w : World) (K : Value → World → Prop) : enterV Tryd.prog tab38 Tryd.f38 [t0] w K = F38 t0 w K := by kernel_rfl

theorem F38_ok {t0 : Value} {w : World} {K : Value → World → Prop} (h : F38 t0 w K) : Ret Tryd.prog 38 #[t0] w K :=
  enter_sound (T := tab38) (args := [t0]) Tryd.func38 Tryd.call38 mixed (by kernel_rfl) (by rw [F38_eq]; exact h)

def F39L1 (K : Value → World → Prop) (ρ : Env) (ds : List Nat) (w : World) (ag1 : List Value → List Nat → World → Prop) : Prop :=
  vLen .string (ρ 0) fun v6 =>
  vBin (.int .i64) .lss (ρ 3) v6 fun v7 =>
  vBool v7 fun c => if c = true then
   (vIx .string .bad (ρ 0) (ρ 3) fun v12 =>
  vBin (.int .u8) .lss v12 (.int .u8 97) fun v13 =>
  vBool v13 fun g => if g = true then
  (leaveV ds w fun W => K (.bool false) W)
  else
  (vIx .string .bad (ρ 0) (ρ 3) fun v17 =>
  vBin (.int .u8) .gtr v17 (.int .u8 122) fun v18 =>
  vBool v18 fun c_2 => if c_2 = true then
   (leaveV ds w fun W => K (.bool false) W)
  else
  vBin (.int .i64) .add (ρ 3) (.int .i64 1) fun v9 =>
  ag1 [(ρ 0), v9] ds w))
  else
  vLen .string (ρ 0) fun v21 =>
  vBin (.int .i64) .geq v21 (.int .i64 1) fun v22 =>
  vBool v22 fun g_2 => if g_2 = true then
  (vLen .string (ρ 0) fun v25 =>
  vBin (.int .i64) .leq v25 (.int .i64 16) fun v26 =>
  leaveV ds w fun W => K v26 W)
  else
  (leaveV ds w fun W => K (.bool false) W)

/-- gatehouse/gatehouseref02.Named -/
def F39 (t0 : Value) (w : World) (K : Value → World → Prop) : Prop :=
  loopF [0, 3] [t0, (.int .i64 0)] [] w (F39L1 K)

def tab39 : Tab := { sel := [(2, [0, 3])], plan := [], join := [] }

theorem F39_eq (t0 : Value) (w : World) (K : Value → World → Prop) : enterV Tryd.prog tab39 Tryd.f39 [t0] w K = F39 t0 w K := by kernel_rfl

theorem F39_ok {t0 : Value} {w : World} {K : Value → World → Prop} (h : F39 t0 w K) : Ret Tryd.prog 39 #[t0] w K :=
  enter_sound (T := tab39) (args := [t0]) Tryd.func39 Tryd.call39 mixed (by kernel_rfl) (by rw [F39_eq]; exact h)

def F40L1 (K : Value → World → Prop) (ρ : Env) (ds : List Nat) (w : World) (ag1 : List Value → List Nat → World → Prop) : Prop :=
  vBin (.int .i64) .lss (ρ 9) (ρ 8) fun v10 =>
  vBool v10 fun c => if c = true then
   (vIA (.slice 1) (ρ 7) (ρ 9) fun v11 =>
  vLd .one v11 w fun v12 =>
  vBin .string .neq v12 (.string ⟨#[]⟩) fun v14 =>
  vBool v14 fun g => if g = true then
  (CallK Tryd.prog 53 #[v12, (.string ⟨#[58]⟩)] w fun v17 w_2 =>
  vUn .not v17 fun v18 =>
  vBool v18 fun c_2 => if c_2 = true then
   (vBin (.int .i64) .add (ρ 3) (.int .i64 1) fun v21 =>
   vBin (.int .i64) .add (ρ 9) (.int .i64 1) fun v22 =>
  ag1 [v21, (ρ 7), (ρ 8), v22] ds w_2)
  else
  vBin (.int .i64) .add (ρ 9) (.int .i64 1) fun v22_2 =>
  ag1 [(ρ 3), (ρ 7), (ρ 8), v22_2] ds w_2)
  else
  (vBin (.int .i64) .add (ρ 9) (.int .i64 1) fun v22_3 =>
  ag1 [(ρ 3), (ρ 7), (ρ 8), v22_3] ds w))
  else
  leaveV ds w fun W => K (ρ 3) W

/-- gatehouse/isa.count -/
def F40 (t0 : Value) (w : World) (K : Value → World → Prop) : Prop :=
  CallK Tryd.prog 48 #[t0, (.string ⟨#[10]⟩)] w fun v7 w =>
  vLen (.slice 1) v7 fun v8 =>
  loopF [3, 7, 8, 9] [(.int .i64 0), v7, v8, (.int .i64 0)] [] w (F40L1 K)

def tab40 : Tab := { sel := [(3, [3, 7, 8, 9])], plan := [], join := [] }

theorem F40_eq (t0 : Value) (w : World) (K : Value → World → Prop) : enterV Tryd.prog tab40 Tryd.f40 [t0] w K = F40 t0 w K := by kernel_rfl

theorem F40_ok {t0 : Value} {w : World} {K : Value → World → Prop} (h : F40 t0 w K) : Ret Tryd.prog 40 #[t0] w K :=
  enter_sound (T := tab40) (args := [t0]) Tryd.func40 Tryd.call40 mixed (by kernel_rfl) (by rw [F40_eq]; exact h)

def F47L1 (K : Value → World → Prop) (ρ : Env) (ds : List Nat) (w : World) (ag1 : List Value → List Nat → World → Prop) : Prop :=
  vBin (.int .i64) .rem (ρ 0) (.int .i64 10) fun v7 =>
  vBin (.int .i64) .add (.int .i64 48) v7 fun v8 =>
  vConv (.int .u8) v8 fun v9 =>
  vBuildSlice Tryd.prog 54 1 [(0, v9)] w fun v10 w =>
  vB2S v10 w fun v11 =>
  vBin .string .add v11 (ρ 3) fun v13 =>
  vBin (.int .i64) .quo (ρ 0) (.int .i64 10) fun v15 =>
  vBin (.int .i64) .eql v15 (.int .i64 0) fun v17 =>
  vBool v17 fun c_2 => if c_2 = true then
   (leaveV ds w fun W => K v13 W)
  else
  ag1 [v15, v13] ds w

/-- gatehouse/gatehouseref01.Digits -/
def F47 (t0 : Value) (w : World) (K : Value → World → Prop) : Prop :=
  vBin (.int .i64) .lss t0 (.int .i64 0) fun v5 =>
  vBool v5 fun c => if c = true then
   (K (.string ⟨#[63]⟩) w)
  else
  loopF [0, 3] [t0, (.string ⟨#[]⟩)] [] w (F47L1 K)

def tab47 : Tab := { sel := [(4, [0, 3])], plan := [], join := [] }

theorem F47_eq (t0 : Value) (w : World) (K : Value → World → Prop) : enterV Tryd.prog tab47 Tryd.f47 [t0] w K = F47 t0 w K := by kernel_rfl

theorem F47_ok {t0 : Value} {w : World} {K : Value → World → Prop} (h : F47 t0 w K) : Ret Tryd.prog 47 #[t0] w K :=
  enter_sound (T := tab47) (args := [t0]) Tryd.func47 Tryd.call47 mixed (by kernel_rfl) (by rw [F47_eq]; exact h)

def F49L1 (K : Value → World → Prop) (ρ : Env) (ds : List Nat) (w : World) (ag1 : List Value → List Nat → World → Prop) : Prop :=
  CallK Tryd.prog 28 #[(ρ 3)] w fun v5 w =>
  vField (some (.one, 0)) v5 fun v6 =>
  vBin .string .neq v6 (.string ⟨#[]⟩) fun v7 =>
  vBool v7 fun c => if c = true then
   (CallK Tryd.prog 28 #[(ρ 3)] w fun v11 w_2 =>
  vField (some (.one, 0)) v11 fun v12 =>
  vBin .string .eql v12 (ρ 0) fun v14 =>
  vBool v14 fun c_2 => if c_2 = true then
   (leaveV ds w_2 fun W => K (ρ 3) W)
  else
  vBin (.int .i64) .add (ρ 3) (.int .i64 1) fun v9 =>
  ag1 [(ρ 0), v9] ds w_2)
  else
  leaveV ds w fun W => K (.int .i64 (-1)) W

/-- gatehouse/isa.opOf -/
def F49 (t0 : Value) (w : World) (K : Value → World → Prop) : Prop :=
  loopF [0, 3] [t0, (.int .i64 0)] [] w (F49L1 K)

def tab49 : Tab := { sel := [(2, [0, 3])], plan := [], join := [] }

theorem F49_eq (t0 : Value) (w : World) (K : Value → World → Prop) : enterV Tryd.prog tab49 Tryd.f49 [t0] w K = F49 t0 w K := by kernel_rfl

theorem F49_ok {t0 : Value} {w : World} {K : Value → World → Prop} (h : F49 t0 w K) : Ret Tryd.prog 49 #[t0] w K :=
  enter_sound (T := tab49) (args := [t0]) Tryd.func49 Tryd.call49 mixed (by kernel_rfl) (by rw [F49_eq]; exact h)

def F55L1 (K : Value → World → Prop) (ρ : Env) (ds : List Nat) (w : World) (ag1 : List Value → List Nat → World → Prop) : Prop :=
  vBin (.int .i64) .lss (ρ 6) (ρ 5) fun v7 =>
  vBool v7 fun c => if c = true then
   (vIx .string .bad (ρ 0) (ρ 6) fun v11 =>
  vBin (.int .u8) .lss v11 (.int .u8 97) fun v12 =>
  vBool v12 fun g => if g = true then
  (leaveV ds w fun W => K (.bool false) W)
  else
  (vIx .string .bad (ρ 0) (ρ 6) fun v16 =>
  vBin (.int .u8) .gtr v16 (.int .u8 122) fun v17 =>
  vBool v17 fun c_2 => if c_2 = true then
   (leaveV ds w fun W => K (.bool false) W)
  else
  vBin (.int .i64) .add (ρ 6) (.int .i64 1) fun v19 =>
  ag1 [(ρ 0), (ρ 5), v19] ds w))
  else
  vLen .string (ρ 0) fun v21 =>
  vBin (.int .i64) .geq v21 (.int .i64 1) fun v22 =>
  vBool v22 fun g_2 => if g_2 = true then
  (vLen .string (ρ 0) fun v25 =>
  vBin (.int .i64) .leq v25 (.int .i64 16) fun v26 =>
  leaveV ds w fun W => K v26 W)
  else
  (leaveV ds w fun W => K (.bool false) W)

/-- gatehouse/isa.isName -/
def F55 (t0 : Value) (w : World) (K : Value → World → Prop) : Prop :=
  vLen .string t0 fun v5 =>
  loopF [0, 5, 6] [t0, v5, (.int .i64 0)] [] w (F55L1 K)

def tab55 : Tab := { sel := [(2, [0, 5, 6])], plan := [], join := [] }

theorem F55_eq (t0 : Value) (w : World) (K : Value → World → Prop) : enterV Tryd.prog tab55 Tryd.f55 [t0] w K = F55 t0 w K := by kernel_rfl

theorem F55_ok {t0 : Value} {w : World} {K : Value → World → Prop} (h : F55 t0 w K) : Ret Tryd.prog 55 #[t0] w K :=
  enter_sound (T := tab55) (args := [t0]) Tryd.func55 Tryd.call55 mixed (by kernel_rfl) (by rw [F55_eq]; exact h)

end Go.Proofs.YtnmmpgeojimgoaaDoor
