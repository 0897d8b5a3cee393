import Derived.Test.YtdkklhnleppfcaaGreatFsL
import Derived.Test.YtdkklhnleppfcaaGreatProg
set_option linter.unusedVariables false
set_option linter.unusedSimpArgs false

set_option linter.unusedVariables false
namespace Go.Proofs.YtdkklhnleppfcaaGreat
open Go Go.V
set_option maxRecDepth 100000

def F9J2 (K : Value → World → Prop) (ρ : Env) (ds : List Nat) (w : World) : Prop :=
  vPtr .eql (ρ 3) (.pointer none) w fun v120 =>
  vBool v120 fun g => if g = true then
  (vBin (.int .i64) .eql (ρ 4) (.int .i64 4) fun v123 =>
  vBool v123 fun g_2 => if g_2 = true then
  (vLd (.agg 6) (ρ 1) w fun v127 =>
  CallK Tryz.prog 26 #[(ρ 5), v127, (.int .i64 3), (.int .i64 9)] w fun v128 w_22 =>
  vBuild Tryz.prog 90 [(0, (.int .i64 4))] fun v129 =>
  vAggEq Tryz.prog 90 .eql v128 v129 fun v130 =>
  vBool v130 fun g_3 => if g_3 = true then
  (vLen (.slice 6) (ρ 6) fun v134 =>
  vBin (.int .i64) .eql v134 (.int .i64 0) fun v135 =>
  vBool v135 fun g_4 => if g_4 = true then
  (vBin (.int .i64) .eql (ρ 7) (.int .i64 4) fun v139 =>
  vBool v139 fun g_5 => if g_5 = true then
  (vLd (.agg 6) (ρ 8) w_22 fun v142 =>
  vBuild Tryz.prog 77 [] fun v143 =>
  vAggEq Tryz.prog 77 .eql v142 v143 fun v144 =>
  vBool v144 fun g_6 => if g_6 = true then
  (vBin (.int .i64) .eql (ρ 9) (.int .i64 4) fun v148 =>
  vBool v148 fun g_7 => if g_7 = true then
  (vBin (.int .i64) .eql (ρ 13) (.int .i64 4) fun v152 =>
  leaveV ds w_22 fun W => K v152 W)
  else
  (leaveV ds w_22 fun W => K (.bool false) W))
  else
  (leaveV ds w_22 fun W => K (.bool false) W))
  else
  (leaveV ds w_22 fun W => K (.bool false) W))
  else
  (leaveV ds w_22 fun W => K (.bool false) W))
  else
  (leaveV ds w_22 fun W => K (.bool false) W))
  else
  (leaveV ds w fun W => K (.bool false) W))
  else
  (leaveV ds w fun W => K (.bool false) W)

def F9J1 (K : Value → World → Prop) (ρ : Env) (ds : List Nat) (w : World) : Prop :=
  CallK Tryz.prog 33 #[(ρ 3), (.int .i64 1)] w fun v95 w_19 =>
  vExt v95 0 fun v96 =>
  vExt v95 1 fun v97 =>
  vAlloc Tryz.prog 77 w_19 fun v22 w_20 =>
  vSt (some 6) v22 v96 w_20 fun w_21 =>
  joinF [1, 3, 4, 5, 6, 7, 8, 9, 13] (fun J2 =>
  vUn .not (ρ 17) fun v99 =>
  vBool v99 fun g => if g = true then
  (leaveV ds w_21 fun W => K (.bool false) W)
  else
  (vLd (.agg 6) (ρ 16) w_21 fun v101 =>
  vBuild Tryz.prog 77 [(0, (.int .i64 1)), (1, (.int .i64 1)), (2, (.int .i64 30)), (3, (.int .i64 701))] fun v102 =>
  vAggEq Tryz.prog 77 .neq v101 v102 fun v103 =>
  vBool v103 fun g_2 => if g_2 = true then
  (leaveV ds w_21 fun W => K (.bool false) W)
  else
  (vBool (ρ 19) fun g_3 => if g_3 = true then
  (leaveV ds w_21 fun W => K (.bool false) W)
  else
  (vBool v97 fun g_4 => if g_4 = true then
  (leaveV ds w_21 fun W => K (.bool false) W)
  else
  (vBool (ρ 21) fun g_5 => if g_5 = true then
  (vFA (some 2) (ρ 1) fun v114 =>
  vLd .one v114 w_21 fun v115 =>
  vBin (.int .i64) .neq v115 (.int .i64 (-39)) fun v116 =>
  vBool v116 fun c_2 => if c_2 = true then
   (leaveV ds w_21 fun W => K (.bool false) W)
  else
  J2 [(ρ 1), (ρ 3), (ρ 4), (ρ 5), (ρ 6), (ρ 7), (ρ 8), (ρ 9), (ρ 13)] ds w_21)
  else
  (J2 [(ρ 1), (ρ 3), (ρ 4), (ρ 5), (ρ 6), (ρ 7), (ρ 8), (ρ 9), (ρ 13)] ds w_21))))))
  (F9J2 K)

/-- gatehouse/gatehouselaw18.ProcsNone -/
def F9 (t0 : Value) (w : World) (K : Value → World → Prop) : Prop :=
  vBox 88 t0 w fun v1 w =>
  CallK Tryz.prog 11 #[] w fun v24 w_2 =>
  vUn .not v24 fun v25 =>
  vBool v25 fun c => if c = true then
   (K (.bool false) w_2)
  else
  vBuild Tryz.prog 36 [] fun v27 =>
  CallK Tryz.prog 31 #[] w_2 fun v28 w_3 =>
  CallK Tryz.prog 30 #[(.pointer none), (.pointer none), v27, (.int .i64 1), v28, (.int .i64 9)] w_3 fun v29 w_4 =>
  vExt v29 0 fun v30 =>
  vExt v29 1 fun v31 =>
  vBuild Tryz.prog 33 [(2, v30)] fun v33 =>
  vBox 33 v33 w_4 fun v34 w_5 =>
  vFA (some 0) v1 fun v35 =>
  vLd .one v35 w_5 fun v36 =>
  vConv (.int .u64) v36 fun v37 =>
  vBin (.int .u64) .rem v37 (.int .u64 9) fun v38 =>
  vConv (.int .i64) v38 fun v39 =>
  vBin (.int .i64) .add (.int .i64 1) v39 fun v40 =>
  vFA (some 0) v1 fun v41 =>
  vSt (some 1) v41 v40 w_5 fun w_6 =>
  vBuild Tryz.prog 36 [] fun v44 =>
  CallK Tryz.prog 21 #[v30, v44] w_6 fun v45 w_7 =>
  vExt v45 0 fun v46 =>
  vExt v45 1 fun v47 =>
  vBuild Tryz.prog 36 [] fun v50 =>
  CallK Tryz.prog 32 #[v30, v50] w_7 fun v51 w_8 =>
  vExt v51 0 fun v52 =>
  vExt v51 1 fun v53 =>
  vAlloc Tryz.prog 77 w_8 fun v8 w_9 =>
  vSt (some 6) v8 v52 w_9 fun w_10 =>
  vBuild Tryz.prog 36 [] fun v56 =>
  CallK Tryz.prog 17 #[v30, v56] w_10 fun v57 w_11 =>
  vExt v57 0 fun v58 =>
  vExt v57 1 fun v59 =>
  vExt v57 2 fun v60 =>
  vExt v57 3 fun v61 =>
  CallK Tryz.prog 12 #[] w_11 fun v63 w_12 =>
  vExt v63 0 fun v64 =>
  vExt v63 1 fun v65 =>
  vNilP Tryz.prog v64 fun v68 =>
  vFA (some 2) v68 fun v69 =>
  vLd .one v69 w_12 fun v70 =>
  CallK Tryz.prog 33 #[v70, (.int .i64 1)] w_12 fun v71 w_13 =>
  vExt v71 0 fun v72 =>
  vExt v71 1 fun v73 =>
  vAlloc Tryz.prog 77 w_13 fun v16 w_14 =>
  vSt (some 6) v16 v72 w_14 fun w_15 =>
  vNilP Tryz.prog v64 fun v76 =>
  vFA (some 2) v76 fun v77 =>
  vLd .one v77 w_15 fun v78 =>
  CallK Tryz.prog 33 #[v78, (.int .i64 2)] w_15 fun v79 w_16 =>
  vExt v79 0 fun v80 =>
  vExt v79 1 fun v81 =>
  vAlloc Tryz.prog 77 w_16 fun v18 w_17 =>
  vSt (some 6) v18 v80 w_17 fun w_18 =>
  joinF [1, 3, 4, 5, 6, 7, 8, 9, 13, 16, 17, 19, 21] (fun J1 =>
  drawF w_18 fun S =>
  vNilP Tryz.prog v64 fun v84 =>
  vFA (some 2) v84 fun v85 =>
  vLdS S .one v85 fun v86 =>
  vFA (some 2) v1 fun v87 =>
  vLdS S .one v87 fun v88 =>
  vBin (.int .i64) .add v88 (.int .i64 40) fun v89 =>
  (CallK Tryz.prog 33 #[v86, v89] w_18.drew fun v90 w_19 =>
  S w_19 ∧ (vExt v90 0 fun v91 =>
  vExt v90 1 fun v92 =>
  (vAlloc Tryz.prog 77 w_19 fun v20 w_20 =>
  S w_20 ∧ ((vSt (some 6) v20 v91 w_20 fun w_21 =>
  (J1 [v1, v30, v31, v34, v46, v47, v8, v53, v61, v16, v73, v81, v92] [] w_21)) ∧
  (True))) ∧
  (True))) ∧
  ((vAlloc Tryz.prog 77 w_18.drew fun v20_2 w_22 =>
  S w_22 ∧ ((CallK Tryz.prog 33 #[v86, v89] w_22 fun v90_2 w_23 =>
  S w_23 ∧ (vExt v90_2 0 fun v91_2 =>
  vExt v90_2 1 fun v92_2 =>
  (vSt (some 6) v20_2 v91_2 w_23 fun w_24 =>
  (J1 [v1, v30, v31, v34, v46, v47, v8, v53, v61, v16, v73, v81, v92_2] [] w_24)) ∧
  (True))) ∧
  (True))) ∧
  (True)))
  (F9J1 K)

def tab9 : Tab := { sel := [], plan := [(12, (.take 0 (.take 1 (.take 2 (.take 3 (.take 4 (.take 5 (.take 6 (.alt 7 (.take 8 (.take 9 (.take 10 (.alt 11 (.alt 12 (.take 13 .done) .stop) .stop)))) (.alt 11 (.alt 7 (.take 8 (.take 9 (.take 10 (.alt 12 (.take 13 .done) .stop)))) .stop) .stop))))))))))], join := [(16, [1, 3, 4, 5, 6, 7, 8, 9, 13]), (13, [1, 3, 4, 5, 6, 7, 8, 9, 13, 16, 17, 19, 21])] }

theorem F9_eq (t0 : Value) (w : World) (K : Value → World → Prop) : enterV Tryz.prog tab9 Tryz.f9 [t0] w K = F9 t0 w K := by kernel_rfl

theorem F9_ok {t0 : Value} {w : World} {K : Value → World → Prop} (h : F9 t0 w K) : Ret Tryz.prog 9 #[t0] w K :=
  enter_sound (T := tab9) (args := [t0]) Tryz.func9 Tryz.call9 mixed (by kernel_rfl) (by rw [F9_eq]; exact h)

def F33J2 (K : Value → World → Prop) (ρ : Env) (ds : List Nat) (w : World) : Prop :=
  vFA (some 8) (ρ 6) fun v32 =>
  vLd .one v32 w fun v33 =>
  CallK Tryz.prog 85 #[v33] w fun v34 w_3 =>
  vBin (.int .i64) .sub (ρ 1) (.int .i64 1) fun v36 =>
  vNilP Tryz.prog v34 fun v37 =>
  vIA (.arr 32 6) v37 v36 fun v38 =>
  vLd (.agg 6) v38 w_3 fun v39 =>
  vAlloc Tryz.prog 77 w_3 fun v8 w_4 =>
  vSt (some 6) v8 v39 w_4 fun w_5 =>
  vFA (some 1) v8 fun v40 =>
  vLd .one v40 w_5 fun v41 =>
  vBin (.int .i64) .eql v41 (.int .i64 0) fun v42 =>
  vBool v42 fun c_2 => if c_2 = true then
   (vBuild Tryz.prog 77 [] fun v43 =>
   vSt (some 6) (ρ 4) v43 w_5 fun w_6 =>
   leaveV ds w_6 fun W => vLd (.agg 6) (ρ 4) W fun r_2 => K (.tuple #[r_2, (.bool false)]) W)
  else
  vLd (.agg 6) v8 w_5 fun v44 =>
  vSt (some 6) (ρ 4) v44 w_5 fun w_7 =>
  leaveV ds w_7 fun W => vLd (.agg 6) (ρ 4) W fun r_3 => K (.tuple #[r_3, (.bool true)]) W

def F33J1 (K : Value → World → Prop) (ρ : Env) (ds : List Nat) (w : World) : Prop :=
  vBool (ρ 18) fun c => if c = true then
   (vBuild Tryz.prog 77 [] fun v19 =>
   vSt (some 6) (ρ 4) v19 w fun w_2 =>
   leaveV ds w_2 fun W => vLd (.agg 6) (ρ 4) W fun r => K (.tuple #[r, (.bool false)]) W)
  else
  joinF [1, 4, 6] (fun J2 =>
  drawF w fun S =>
  vNilP Tryz.prog (ρ 0) fun v22 =>
  vFA (some 0) v22 fun v23 =>
  vLdS S .one v23 fun v24 =>
  vNilP Tryz.prog (ρ 0) fun v26 =>
  vFA (some 2) v26 fun v27 =>
  vLdS S .one v27 fun v28 =>
  (CallK Tryz.prog 19 #[v24, v28] w.drew fun v29 w_3 =>
  S w_3 ∧ (vExt v29 0 fun v30 =>
  vExt v29 1 fun v31 =>
  (vAlloc Tryz.prog 68 w_3 fun v6 w_4 =>
  S w_4 ∧ ((vSt (some 38) v6 v30 w_4 fun w_5 =>
  (J2 [(ρ 1), (ρ 4), v6] ds w_5)) ∧
  (True))) ∧
  (True))) ∧
  ((vAlloc Tryz.prog 68 w.drew fun v6_2 w_6 =>
  S w_6 ∧ ((CallK Tryz.prog 19 #[v24, v28] w_6 fun v29_2 w_7 =>
  S w_7 ∧ (vExt v29_2 0 fun v30_2 =>
  vExt v29_2 1 fun v31_2 =>
  (vSt (some 38) v6_2 v30_2 w_7 fun w_8 =>
  (J2 [(ρ 1), (ρ 4), v6_2] ds w_8)) ∧
  (True))) ∧
  (True))) ∧
  (True)))
  (F33J2 K)

/-- (*gatehouse/procs.Procs).Peek -/
def F33 (t0 : Value) (t1 : Value) (w : World) (K : Value → World → Prop) : Prop :=
  vAlloc Tryz.prog 77 w fun v4 w =>
  joinF [0, 1, 4, 18] (fun J1 =>
  vPtr .eql t0 (.pointer none) w fun v10 =>
  vBool v10 fun g => if g = true then
  (J1 [t0, t1, v4, (.bool true)] [] w)
  else
  (vBin (.int .i64) .lss t1 (.int .i64 1) fun v13 =>
  vBool v13 fun g_2 => if g_2 = true then
  (J1 [t0, t1, v4, (.bool true)] [] w)
  else
  (vBin (.int .i64) .gtr t1 (.int .i64 32) fun v17 =>
  J1 [t0, t1, v4, v17] [] w)))
  (F33J1 K)

def tab33 : Tab := { sel := [], plan := [(3, (.take 0 (.take 1 (.take 2 (.take 3 (.take 4 (.take 5 (.take 6 (.take 7 (.alt 8 (.take 9 (.take 10 (.take 11 (.alt 12 (.alt 13 (.take 14 .done) .stop) .stop)))) (.alt 12 (.alt 8 (.take 9 (.take 10 (.take 11 (.alt 13 (.take 14 .done) .stop)))) .stop) .stop)))))))))))], join := [(4, [1, 4, 6]), (2, [0, 1, 4, 18])] }

theorem F33_eq (t0 : Value) (t1 : Value) (w : World) (K : Value → World → Prop) : enterV Tryz.prog tab33 Tryz.f33 [t0, t1] w K = F33 t0 t1 w K := by kernel_rfl

theorem F33_ok {t0 : Value} {t1 : Value} {w : World} {K : Value → World → Prop} (h : F33 t0 t1 w K) : Ret Tryz.prog 33 #[t0, t1] w K :=
  enter_sound (T := tab33) (args := [t0, t1]) Tryz.func33 Tryz.call33 mixed (by kernel_rfl) (by rw [F33_eq]; exact h)

end Go.Proofs.YtdkklhnleppfcaaGreat
