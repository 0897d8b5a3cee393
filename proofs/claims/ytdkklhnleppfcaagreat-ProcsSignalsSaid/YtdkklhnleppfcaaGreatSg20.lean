import Derived.Test.YtdkklhnleppfcaaGreatSg15
import Derived.Test.YtdkklhnleppfcaaGreatSg05
import Derived.Test.YtdkklhnleppfcaaGreatProg
set_option linter.unusedVariables false
set_option linter.unusedSimpArgs false

set_option linter.unusedVariables false
namespace Go.Proofs.YtdkklhnleppfcaaGreat
open Go Go.V
set_option maxRecDepth 100000

def F56J1 (K : Value → World → Prop) (ρ : Env) (ds : List Nat) (w : World) : Prop :=
  vBool (ρ 37) fun c_2 => if c_2 = true then
   (leaveV ds w fun W => K (.tuple #[(.pointer none), (.int .i64 11)]) W)
  else
  drawF w fun S =>
  vFA (some 5) (ρ 6) fun v40 =>
  vLdS S (.agg 2) v40 fun v41 =>
  vNilP Tryz.prog (ρ 0) fun v43 =>
  vFA (some 2) v43 fun v44 =>
  vLdS S .one v44 fun v45 =>
  (vLookup Tryz.prog 158 v45 (ρ 1) false w.drew fun v47 =>
  S w.drew ∧ (vNilP Tryz.prog v47 fun v48 =>
  vFA (some 2) v48 fun v49 =>
  vLdS S (.agg 2) v49 fun v50 =>
  vBuild Tryz.prog 153 [(0, (ρ 0)), (2, (ρ 1)), (3, v41), (4, v50)] fun v51 =>
  (vBox 153 v51 w.drew fun v52 w_4 =>
  S w_4 ∧ (leaveV ds w_4 fun W => K (.tuple #[v52, (.int .i64 0)]) W)) ∧
  (True))) ∧
  (True)

def F56 (t0 : Value) (t1 : Value) (w : World) (K : Value → World → Prop) : Prop :=
  vPtr .eql t0 (.pointer none) w fun v9 =>
  vBool v9 fun c => if c = true then
   (K (.tuple #[(.pointer none), (.int .i64 4)]) w)
  else
  vNilP Tryz.prog t0 fun v12 =>
  vFA (some 0) v12 fun v13 =>
  vLd .one v13 w fun v14 =>
  CallK Tryz.prog 65 #[v14, t1] w fun v16 w =>
  vExt v16 0 fun v17 =>
  vExt v16 1 fun v18 =>
  vAlloc Tryz.prog 62 w fun v6 w_2 =>
  vSt (some 7) v6 v17 w_2 fun w_3 =>
  joinF [0, 1, 6, 37] (fun J1 =>
  vUn .not v18 fun v20 =>
  vBool v20 fun g => if g = true then
  (J1 [t0, t1, v6, (.bool true)] [] w_3)
  else
  (vFA (some 1) v6 fun v22 =>
  vLd .one v22 w_3 fun v23 =>
  vBin (.int .i64) .neq v23 (.int .i64 4) fun v24 =>
  vBool v24 fun g_2 => if g_2 = true then
  (J1 [t0, t1, v6, (.bool true)] [] w_3)
  else
  (vNilP Tryz.prog t0 fun v28 =>
  vFA (some 2) v28 fun v29 =>
  vLd .one v29 w_3 fun v30 =>
  vLookup Tryz.prog 158 v30 t1 false w_3 fun v32 =>
  vNilP Tryz.prog v32 fun v33 =>
  vFA (some 24) v33 fun v34 =>
  vLd .one v34 w_3 fun v35 =>
  vBin (.int .i64) .neq v35 (.int .i64 0) fun v36 =>
  J1 [t0, t1, v6, v36] [] w_3)))
  (F56J1 K)

def tab56 : Tab := { sel := [], plan := [(6, (.take 0 (.take 1 (.take 2 (.take 3 (.take 4 (.take 5 (.take 6 (.take 7 (.take 8 (.alt 9 (.take 10 (.take 11 (.take 12 (.take 13 (.alt 14 (.take 15 (.take 16 .done)) .stop))))) .stop)))))))))))], join := [(5, [0, 1, 6, 37])] }

theorem F56_eq (t0 : Value) (t1 : Value) (w : World) (K : Value → World → Prop) : enterV Tryz.prog tab56 Tryz.f56 [t0, t1] w K = F56 t0 t1 w K := by kernel_rfl

theorem F56_ok {t0 : Value} {t1 : Value} {w : World} {K : Value → World → Prop} (h : F56 t0 t1 w K) : Ret Tryz.prog 56 #[t0, t1] w K :=
  enter_sound (T := tab56) (args := [t0, t1]) Tryz.func56 Tryz.call56 mixed (by kernel_rfl) (by rw [F56_eq]; exact h)

def F60J5 (K : Value → World → Prop) (ρ : Env) (ds : List Nat) (w : World) : Prop :=
  vBool (ρ 144) fun c_7 => if c_7 = true then
   (drawF w fun S_7 =>
   vNilP Tryz.prog (ρ 4) fun v149 =>
   vFA (some 0) v149 fun v150 =>
   vLdS S_7 .one v150 fun v151 =>
   vNilP Tryz.prog (ρ 0) fun v153 =>
   vFA (some 1) v153 fun v154 =>
   vFA (some 5) v154 fun v155 =>
   vLdS S_7 .one v155 fun v156 =>
   (CallK Tryz.prog 135 #[v151, v156] w.drew fun v157 w_13 =>
   S_7 w_13 ∧ (vExt v157 0 fun v158 =>
   vExt v157 1 fun v159 =>
   vBin (.int .i64) .neq v159 (.int .i64 0) fun v191 =>
   vBool v191 fun c_8 => if c_8 = true then
    (leaveV ds w_13 fun W => K v159 W)
   else
   vNilP Tryz.prog (ρ 0) fun v195 =>
   vFA (some 1) v195 fun v196 =>
   vFA (some 0) v196 fun v197 =>
   vLd .one v197 w_13 fun v198 =>
   vBin (.int .i64) .eql v198 (.int .i64 23) fun v199 =>
   vBool v199 fun c_9 => if c_9 = true then
    (drawF w_13 fun S_8 =>
    vNilP Tryz.prog (ρ 0) fun v201 =>
    vFA (some 0) v201 fun v202 =>
    vLdS S_8 .one v202 fun v203 =>
    vNilP Tryz.prog (ρ 0) fun v205 =>
    vFA (some 0) v205 fun v206 =>
    vLdS S_8 .one v206 fun v207 =>
    vNilP Tryz.prog v207 fun v208 =>
    vFA (some 1) v208 fun v209 =>
    vLdS S_8 .one v209 fun v210 =>
    vNilP Tryz.prog (ρ 0) fun v212 =>
    vFA (some 1) v212 fun v213 =>
    vFA (some 1) v213 fun v214 =>
    vFA (some 1) v214 fun v215 =>
    vLdS S_8 .one v215 fun v216 =>
    vNilP Tryz.prog (ρ 0) fun v218 =>
    vFA (some 1) v218 fun v219 =>
    vFA (some 5) v219 fun v220 =>
    vLdS S_8 .one v220 fun v221 =>
    (CallK Tryz.prog 137 #[v210, v216, v221] w_13.drew fun v222 w_14 =>
    S_8 w_14 ∧ ((CallK Tryz.prog 136 #[v203, v222] w_14 fun v223 w_15 =>
    S_8 w_15 ∧ (leaveV ds w_15 fun W => K (ρ 6) W)) ∧
    (True))) ∧
    (True))
   else
   vNilP Tryz.prog (ρ 0) fun v227 =>
   vFA (some 1) v227 fun v228 =>
   vFA (some 6) v228 fun v229 =>
   vLd .one v229 w_13 fun v230 =>
   vConv (.int .u64) v230 fun v231 =>
   vBin (.int .u64) .neq v158 v231 fun v232 =>
   vBool v232 fun c_10 => if c_10 = true then
    (vNilP Tryz.prog (ρ 0) fun v234 =>
    vFA (some 27) v234 fun v235 =>
    vFA (some 0) v235 fun v236 =>
    vSt (some 1) v236 (.int .i64 1) w_13 fun w_16 =>
    leaveV ds w_16 fun W => K (ρ 6) W)
   else
   drawF w_13 fun S_9 =>
   vNilP Tryz.prog (ρ 0) fun v161 =>
   vFA (some 0) v161 fun v162 =>
   vLdS S_9 .one v162 fun v163 =>
   vNilP Tryz.prog v163 fun v164 =>
   vFA (some 1) v164 fun v165 =>
   vLdS S_9 .one v165 fun v166 =>
   vNilP Tryz.prog (ρ 0) fun v168 =>
   vFA (some 21) v168 fun v169 =>
   vLdS S_9 .one v169 fun v170 =>
   vNilP Tryz.prog (ρ 0) fun v172 =>
   vFA (some 1) v172 fun v173 =>
   vFA (some 1) v173 fun v174 =>
   vFA (some 1) v174 fun v175 =>
   vLdS S_9 .one v175 fun v176 =>
   vNilP Tryz.prog (ρ 0) fun v178 =>
   vFA (some 1) v178 fun v179 =>
   vFA (some 5) v179 fun v180 =>
   vLdS S_9 .one v180 fun v181 =>
   (CallK Tryz.prog 138 #[v166, v170, v176, v181] w_13.drew fun v182 w_17 =>
   S_9 w_17 ∧ (vBin (.int .i64) .eql v182 (.int .i64 0) fun v184 =>
   vBool v184 fun c_11 => if c_11 = true then
    (CallK Tryz.prog 115 #[(ρ 0)] w_17 fun v186 w_18 =>
    vNilP Tryz.prog v186 fun v187 =>
    vFA (some 24) v187 fun v188 =>
    vSt (some 1) v188 (.int .i64 1) w_18 fun w_19 =>
    leaveV ds w_19 fun W => K v182 W)
   else
   leaveV ds w_17 fun W => K v182 W)) ∧
   (True))) ∧
   (True))
  else
  leaveV ds w fun W => K (ρ 6) W

def F60J1 (K : Value → World → Prop) (ρ : Env) (ds : List Nat) (w : World) : Prop :=
  vNilP Tryz.prog (ρ 0) fun v38 =>
  vFA (some 1) v38 fun v39 =>
  vFA (some 1) v39 fun v40 =>
  vLd (.agg 2) v40 w fun v41 =>
  CallK Tryz.prog 122 #[(ρ 0), v41, (.int .i64 2), (ρ 3)] w fun v43 w =>
  vExt v43 0 fun v44 =>
  vExt v43 1 fun v45 =>
  vExt v43 2 fun v46 =>
  vAlloc Tryz.prog 62 w fun v5 w_2 =>
  vSt (some 7) v5 v45 w_2 fun w_3 =>
  vBin (.int .i64) .neq v46 (.int .i64 0) fun v48 =>
  vBool v48 fun c => if c = true then
   (leaveV ds w_3 fun W => K v46 W)
  else
  vNilP Tryz.prog (ρ 0) fun v51 =>
  vFA (some 1) v51 fun v52 =>
  vFA (some 0) v52 fun v53 =>
  vLd .one v53 w_3 fun v54 =>
  vBin (.int .i64) .eql v54 (.int .i64 14) fun v56 =>
  vBool v56 fun c_2 => if c_2 = true then
   (drawF w_3 fun S =>
   vNilP Tryz.prog v44 fun v60 =>
   vFA (some 0) v60 fun v61 =>
   vLdS S .one v61 fun v62 =>
   vNilP Tryz.prog (ρ 0) fun v64 =>
   vFA (some 1) v64 fun v65 =>
   vFA (some 5) v65 fun v66 =>
   vLdS S .one v66 fun v67 =>
   vNilP Tryz.prog (ρ 0) fun v69 =>
   vFA (some 1) v69 fun v70 =>
   vFA (some 6) v70 fun v71 =>
   vLdS S .one v71 fun v72 =>
   (CallK Tryz.prog 70 #[v62, v67, v72] w_3.drew fun v73 w_4 =>
   S w_4 ∧ (vExt v73 0 fun v74 =>
   vExt v73 1 fun v75 =>
   vNilP Tryz.prog (ρ 0) fun v76 =>
   vFA (some 27) v76 fun v77 =>
   vFA (some 1) v77 fun v78 =>
   (vSt (some 1) v78 v74 w_4 fun w_5 =>
   (leaveV ds w_5 fun W => K v75 W)) ∧
   (True))) ∧
   (True))
  else
  vBin (.int .i64) .eql v54 (.int .i64 15) fun v80 =>
  vBool v80 fun c_3 => if c_3 = true then
   (drawF w_3 fun S_2 =>
   vNilP Tryz.prog v44 fun v82 =>
   vFA (some 0) v82 fun v83 =>
   vLdS S_2 .one v83 fun v84 =>
   vNilP Tryz.prog (ρ 0) fun v86 =>
   vFA (some 1) v86 fun v87 =>
   vFA (some 5) v87 fun v88 =>
   vLdS S_2 .one v88 fun v89 =>
   vNilP Tryz.prog (ρ 0) fun v91 =>
   vFA (some 1) v91 fun v92 =>
   vFA (some 12) v92 fun v93 =>
   vLdS S_2 .one v93 fun v94 =>
   (vBuildSlice Tryz.prog 363 1 [(0, v94)] w_3.drew fun v95 w_6 =>
   S_2 w_6 ∧ ((CallK Tryz.prog 133 #[v84, v89, v95] w_6 fun v96 w_7 =>
   S_2 w_7 ∧ (leaveV ds w_7 fun W => K v96 W)) ∧
   (True))) ∧
   (True))
  else
  vBin (.int .i64) .eql v54 (.int .i64 16) fun v98 =>
  vBool v98 fun c_4 => if c_4 = true then
   (vNilP Tryz.prog v44 fun v101 =>
   vFA (some 0) v101 fun v102 =>
   vLd .one v102 w_3 fun v103 =>
   CallK Tryz.prog 71 #[v103] w_3 fun v104 w_8 =>
   vNilP Tryz.prog (ρ 0) fun v105 =>
   vFA (some 27) v105 fun v106 =>
   vFA (some 0) v106 fun v107 =>
   vSt (some 1) v107 v104 w_8 fun w_9 =>
   leaveV ds w_9 fun W => K v46 W)
  else
  vBin (.int .i64) .eql v54 (.int .i64 17) fun v109 =>
  vBool v109 fun c_5 => if c_5 = true then
   (drawF w_3 fun S_3 =>
   vNilP Tryz.prog (ρ 0) fun v111 =>
   vFA (some 1) v111 fun v112 =>
   vFA (some 5) v112 fun v113 =>
   vLdS S_3 .one v113 fun v114 =>
   vBin (.int .i64) .geq v114 (.int .i64 0) fun v115 =>
   vBool v115 fun g => if g = true then
   (vNilP Tryz.prog (ρ 0) fun v118 =>
   vFA (some 1) v118 fun v119 =>
   vFA (some 5) v119 fun v120 =>
   vLdS S_3 .one v120 fun v121 =>
   vBin (.int .i64) .leq v121 (.int .i64 4096) fun v122 =>
   vBool v122 fun g_2 => if g_2 = true then
   (vNilP Tryz.prog (ρ 0) fun v126 =>
   vFA (some 1) v126 fun v127 =>
   vFA (some 5) v127 fun v128 =>
   vLdS S_3 .one v128 fun v129 =>
   vFA (some 2) v5 fun v130 =>
   vLdS S_3 .one v130 fun v131 =>
   vBin (.int .i64) .gtr v129 v131 fun v132 =>
   vBool v132 fun c_6 => if c_6 = true then
    (leaveV ds w_3.drew fun W => K (.int .i64 6) W)
   else
   drawF w_3.drew fun S_4 =>
   vNilP Tryz.prog v44 fun v135 =>
   vFA (some 0) v135 fun v136 =>
   vLdS S_4 .one v136 fun v137 =>
   vNilP Tryz.prog (ρ 0) fun v139 =>
   vFA (some 1) v139 fun v140 =>
   vFA (some 5) v140 fun v141 =>
   vLdS S_4 .one v141 fun v142 =>
   (CallK Tryz.prog 134 #[v137, v142] w_3.drew.drew fun v143 w_10 =>
   S_4 w_10 ∧ (leaveV ds w_10 fun W => K v143 W)) ∧
   (True))
   else
   (drawF w_3.drew fun S_5 =>
   vNilP Tryz.prog v44 fun v135_2 =>
   vFA (some 0) v135_2 fun v136_2 =>
   vLdS S_5 .one v136_2 fun v137_2 =>
   vNilP Tryz.prog (ρ 0) fun v139_2 =>
   vFA (some 1) v139_2 fun v140_2 =>
   vFA (some 5) v140_2 fun v141_2 =>
   vLdS S_5 .one v141_2 fun v142_2 =>
   (CallK Tryz.prog 134 #[v137_2, v142_2] w_3.drew.drew fun v143_2 w_11 =>
   S_5 w_11 ∧ (leaveV ds w_11 fun W => K v143_2 W)) ∧
   (True)))
   else
   (drawF w_3.drew fun S_6 =>
   vNilP Tryz.prog v44 fun v135_3 =>
   vFA (some 0) v135_3 fun v136_3 =>
   vLdS S_6 .one v136_3 fun v137_3 =>
   vNilP Tryz.prog (ρ 0) fun v139_3 =>
   vFA (some 1) v139_3 fun v140_3 =>
   vFA (some 5) v140_3 fun v141_3 =>
   vLdS S_6 .one v141_3 fun v142_3 =>
   (CallK Tryz.prog 134 #[v137_3, v142_3] w_3.drew.drew fun v143_3 w_12 =>
   S_6 w_12 ∧ (leaveV ds w_12 fun W => K v143_3 W)) ∧
   (True)))
  else
  joinF [0, 4, 6, 144] (fun J5 =>
  vBin (.int .i64) .eql v54 (.int .i64 22) fun v145 =>
  vBool v145 fun c_7 => if c_7 = true then
   (J5 [(ρ 0), v44, v46, v145] ds w_3)
  else
  vBin (.int .i64) .eql v54 (.int .i64 23) fun v146 =>
  J5 [(ρ 0), v44, v46, v146] ds w_3)
  (F60J5 K)

def F60 (t0 : Value) (w : World) (K : Value → World → Prop) : Prop :=
  joinF [0, 3] (fun J1 =>
  vNilP Tryz.prog t0 fun v12 =>
  vFA (some 1) v12 fun v13 =>
  vFA (some 0) v13 fun v14 =>
  vLd .one v14 w fun v15 =>
  vBin (.int .i64) .eql v15 (.int .i64 15) fun v16 =>
  vBool v16 fun g => if g = true then
  (J1 [t0, (.func (.func 127) #[t0] #[])] [] w)
  else
  (vNilP Tryz.prog t0 fun v19 =>
  vFA (some 1) v19 fun v20 =>
  vFA (some 0) v20 fun v21 =>
  vLd .one v21 w fun v22 =>
  vBin (.int .i64) .eql v22 (.int .i64 17) fun v23 =>
  vBool v23 fun g_2 => if g_2 = true then
  (J1 [t0, (.func (.func 127) #[t0] #[])] [] w)
  else
  (vNilP Tryz.prog t0 fun v27 =>
  vFA (some 1) v27 fun v28 =>
  vFA (some 0) v28 fun v29 =>
  vLd .one v29 w fun v30 =>
  vBin (.int .i64) .eql v30 (.int .i64 23) fun v31 =>
  vBool v31 fun c => if c = true then
   (J1 [t0, (.func (.func 127) #[t0] #[])] [] w)
  else
  J1 [t0, (.func (.func 123) #[t0] #[])] [] w)))
  (F60J1 K)

def tab60 : Tab := { sel := [], plan := [(9, (.take 0 (.take 1 (.take 2 (.take 3 (.take 4 (.take 5 (.take 6 (.take 7 (.take 8 (.take 9 (.take 10 (.take 11 (.take 12 (.take 13 (.take 14 (.alt 15 (.take 16 (.take 17 (.take 18 (.take 19 (.take 20 (.take 21 (.alt 22 (.take 23 .done) .stop))))))) .stop))))))))))))))))), (11, (.take 0 (.take 1 (.take 2 (.take 3 (.take 4 (.take 5 (.take 6 (.take 7 (.take 8 (.take 9 (.take 10 (.take 11 (.take 12 (.take 13 (.alt 14 (.alt 15 (.take 16 .done) .stop) .stop)))))))))))))))), (15, (.take 0 (.take 1 (.take 2 (.take 3 (.take 4 (.take 5 (.take 6 (.take 7 (.take 8 (.take 9 (.take 10 (.take 11 (.take 12 (.take 13 (.take 14 (.take 15 (.take 16 (.take 17 (.take 18 (.take 19 (.take 20 (.take 21 (.take 22 (.take 23 .done))))))))))))))))))))))))), (17, (.take 0 (.take 1 (.take 2 (.take 3 (.take 4 (.take 5 (.take 6 (.take 7 (.take 8 (.alt 9 (.take 10 .done) .stop))))))))))), (20, (.take 0 (.take 1 (.take 2 (.take 3 (.take 4 (.take 5 (.take 6 (.take 7 (.take 8 (.alt 9 (.take 10 (.take 11 (.take 12 (.take 13 (.take 14 .done))))) .stop))))))))))), (27, (.take 0 (.take 1 (.take 2 (.take 3 (.take 4 (.take 5 (.take 6 (.take 7 (.take 8 (.take 9 (.take 10 (.take 11 (.take 12 (.take 13 (.take 14 (.take 15 (.take 16 (.take 17 (.take 18 (.take 19 (.take 20 (.take 21 (.alt 22 (.alt 23 .done .stop) .stop)))))))))))))))))))))))), (21, (.take 0 (.take 1 (.take 2 (.take 3 (.take 4 (.take 5 (.take 6 (.take 7 (.take 8 (.take 9 (.take 10 (.take 11 (.take 12 (.take 13 (.take 14 (.take 15 (.take 16 (.take 17 (.take 18 (.take 19 (.take 20 (.take 21 (.alt 22 (.take 23 .done) .stop))))))))))))))))))))))))], join := [(20, [0, 4, 6, 144]), (4, [0, 3])] }

theorem F60_eq (t0 : Value) (w : World) (K : Value → World → Prop) : enterV Tryz.prog tab60 Tryz.f60 [t0] w K = F60 t0 w K := by kernel_rfl

theorem F60_ok {t0 : Value} {w : World} {K : Value → World → Prop} (h : F60 t0 w K) : Ret Tryz.prog 60 #[t0] w K :=
  enter_sound (T := tab60) (args := [t0]) Tryz.func60 Tryz.call60 mixed (by kernel_rfl) (by rw [F60_eq]; exact h)

def F62 (t0 : Value) (w : World) (K : Value → World → Prop) : Prop :=
  vNilP Tryz.prog t0 fun v10 =>
  vFA (some 1) v10 fun v11 =>
  vFA (some 0) v11 fun v12 =>
  vLd .one v12 w fun v13 =>
  vBin (.int .i64) .eql v13 (.int .i64 24) fun v15 =>
  vBool v15 fun c => if c = true then
   (vNilP Tryz.prog t0 fun v19 =>
   vFA (some 1) v19 fun v20 =>
   vFA (some 1) v20 fun v21 =>
   vLd (.agg 2) v21 w fun v22 =>
   CallK Tryz.prog 122 #[t0, v22, (.int .i64 4), (.func (.func 127) #[t0] #[])] w fun v25 w =>
   vExt v25 0 fun v26 =>
   vExt v25 1 fun v27 =>
   vExt v25 2 fun v28 =>
   vAlloc Tryz.prog 62 w fun v4 w_2 =>
   vSt (some 7) v4 v27 w_2 fun w_3 =>
   vBin (.int .i64) .neq v28 (.int .i64 0) fun v30 =>
   vBool v30 fun c_2 => if c_2 = true then
    (K v28 w_3)
   else
   drawF w_3 fun S =>
   vNilP Tryz.prog t0 fun v34 =>
   vFA (some 0) v34 fun v35 =>
   vLdS S .one v35 fun v36 =>
   vNilP Tryz.prog v36 fun v37 =>
   vFA (some 1) v37 fun v38 =>
   vLdS S .one v38 fun v39 =>
   vNilP Tryz.prog t0 fun v41 =>
   vFA (some 1) v41 fun v42 =>
   vFA (some 1) v42 fun v43 =>
   vFA (some 1) v43 fun v44 =>
   vLdS S .one v44 fun v45 =>
   vNilP Tryz.prog t0 fun v47 =>
   vFA (some 1) v47 fun v48 =>
   vFA (some 5) v48 fun v49 =>
   vLdS S .one v49 fun v50 =>
   (CallK Tryz.prog 141 #[v39, v45, v50] w_3.drew fun v51 w_4 =>
   S w_4 ∧ (vExt v51 0 fun v52 =>
   vExt v51 1 fun v53 =>
   vBool v52 fun c_3 => if c_3 = true then
    (drawF w_4 fun S_2 =>
    vNilP Tryz.prog t0 fun v56 =>
    vFA (some 0) v56 fun v57 =>
    vLdS S_2 .one v57 fun v58 =>
    vNilP Tryz.prog t0 fun v60 =>
    vFA (some 1) v60 fun v61 =>
    vFA (some 1) v61 fun v62 =>
    vFA (some 1) v62 fun v63 =>
    vLdS S_2 .one v63 fun v64 =>
    (vBuildSlice Tryz.prog 42 1 [(0, v64)] w_4.drew fun v65 w_5 =>
    S_2 w_5 ∧ ((CallK Tryz.prog 136 #[v58, v65] w_5 fun v66 w_6 =>
    S_2 w_6 ∧ (K v53 w_6)) ∧
    (True))) ∧
    (True))
   else
   K v53 w_4)) ∧
   (True))
  else
  vBin (.int .i64) .eql v13 (.int .i64 25) fun v69 =>
  vBool v69 fun c_4 => if c_4 = true then
   (drawF w fun S_3 =>
   vNilP Tryz.prog t0 fun v72 =>
   vFA (some 0) v72 fun v73 =>
   vLdS S_3 .one v73 fun v74 =>
   vNilP Tryz.prog v74 fun v75 =>
   vFA (some 1) v75 fun v76 =>
   vLdS S_3 .one v76 fun v77 =>
   vNilP Tryz.prog t0 fun v79 =>
   vFA (some 21) v79 fun v80 =>
   vLdS S_3 .one v80 fun v81 =>
   (CallK Tryz.prog 142 #[v77, v81] w.drew fun v82 w_7 =>
   S_3 w_7 ∧ (vExt v82 0 fun v83 =>
   vExt v82 1 fun v84 =>
   vUn .not v84 fun v86 =>
   vBool v86 fun c_5 => if c_5 = true then
    (K (.int .i64 10) w_7)
   else
   vNilP Tryz.prog t0 fun v89 =>
   vFA (some 27) v89 fun v90 =>
   vFA (some 0) v90 fun v91 =>
   vSt (some 1) v91 v83 w_7 fun w_8 =>
   K (.int .i64 0) w_8)) ∧
   (True))
  else
  vBin (.int .i64) .eql v13 (.int .i64 26) fun v93 =>
  vBool v93 fun c_6 => if c_6 = true then
   (CallK Tryz.prog 115 #[t0] w fun v95 w_9 =>
   vNilP Tryz.prog v95 fun v96 =>
   vFA (some 24) v96 fun v97 =>
   vSt (some 1) v97 (.int .i64 2) w_9 fun w_10 =>
   K (.int .i64 0) w_10)
  else
  vBin (.int .i64) .eql v13 (.int .i64 29) fun v99 =>
  vBool v99 fun c_7 => if c_7 = true then
   (vNilP Tryz.prog t0 fun v102 =>
   vFA (some 0) v102 fun v103 =>
   vLd .one v103 w fun v104 =>
   vNilP Tryz.prog v104 fun v105 =>
   vFA (some 4) v105 fun v106 =>
   vLd .one v106 w fun v107 =>
   vNilP Tryz.prog t0 fun v108 =>
   vFA (some 27) v108 fun v109 =>
   vFA (some 0) v109 fun v110 =>
   vSt (some 1) v110 v107 w fun w_11 =>
   K (.int .i64 0) w_11)
  else
  K (.int .i64 0) w

def tab62 : Tab := { sel := [], plan := [(6, (.take 0 (.take 1 (.take 2 (.take 3 (.take 4 (.take 5 (.take 6 (.take 7 (.take 8 (.take 9 (.take 10 (.take 11 (.take 12 (.take 13 (.take 14 (.take 15 (.take 16 (.take 17 (.alt 18 (.take 19 (.take 20 (.take 21 (.take 22 (.take 23 .done))))) .stop)))))))))))))))))))), (8, (.take 0 (.take 1 (.take 2 (.take 3 (.take 4 (.take 5 (.take 6 (.take 7 (.take 8 (.take 9 (.alt 10 (.alt 11 .done .stop) .stop)))))))))))), (11, (.take 0 (.take 1 (.take 2 (.take 3 (.take 4 (.take 5 (.take 6 (.take 7 (.take 8 (.take 9 (.take 10 (.alt 11 (.take 12 (.take 13 (.take 14 (.take 15 (.take 16 .done))))) .stop)))))))))))))], join := [] }

theorem F62_eq (t0 : Value) (w : World) (K : Value → World → Prop) : enterV Tryz.prog tab62 Tryz.f62 [t0] w K = F62 t0 w K := by kernel_rfl

theorem F62_ok {t0 : Value} {w : World} {K : Value → World → Prop} (h : F62 t0 w K) : Ret Tryz.prog 62 #[t0] w K :=
  enter_sound (T := tab62) (args := [t0]) Tryz.func62 Tryz.call62 mixed (by kernel_rfl) (by rw [F62_eq]; exact h)

def F18J8 (K : Value → World → Prop) (ρ : Env) (ds : List Nat) (w : World) : Prop :=
  vBool (ρ 79) fun c_14 => if c_14 = true then
   (CallK Tryz.prog 63 #[(ρ 10)] w fun v83 w_25 =>
   vBin (.int .i64) .neq v83 (.int .i64 0) fun v89_7 =>
  vBool v89_7 fun c_15 => if c_15 = true then
   (vBuild Tryz.prog 52 [] fun v90_7 =>
   vSt (some 8) (ρ 8) v90_7 w_25 fun w_26 =>
   leaveV ds w_26 fun W => vLd (.agg 8) (ρ 8) W fun r_14 => K (.tuple #[r_14, v83]) W)
  else
  vNilP Tryz.prog (ρ 10) fun v93_7 =>
  vFA (some 27) v93_7 fun v94_7 =>
  vLd (.agg 8) v94_7 w_25 fun v95_7 =>
  vSt (some 8) (ρ 8) v95_7 w_25 fun w_27 =>
  leaveV ds w_27 fun W => vLd (.agg 8) (ρ 8) W fun r_15 => K (.tuple #[r_15, (.int .i64 0)]) W)
  else
  vBin (.int .i64) .eql (ρ 31) (.int .i64 30) fun v85 =>
  vBool v85 fun c_16 => if c_16 = true then
   (CallK Tryz.prog 64 #[(ρ 10)] w fun v87 w_28 =>
   vBin (.int .i64) .neq v87 (.int .i64 0) fun v89_8 =>
  vBool v89_8 fun c_17 => if c_17 = true then
   (vBuild Tryz.prog 52 [] fun v90_8 =>
   vSt (some 8) (ρ 8) v90_8 w_28 fun w_29 =>
   leaveV ds w_29 fun W => vLd (.agg 8) (ρ 8) W fun r_16 => K (.tuple #[r_16, v87]) W)
  else
  vNilP Tryz.prog (ρ 10) fun v93_8 =>
  vFA (some 27) v93_8 fun v94_8 =>
  vLd (.agg 8) v94_8 w_28 fun v95_8 =>
  vSt (some 8) (ρ 8) v95_8 w_28 fun w_30 =>
  leaveV ds w_30 fun W => vLd (.agg 8) (ρ 8) W fun r_17 => K (.tuple #[r_17, (.int .i64 0)]) W)
  else
  vBin (.int .i64) .neq (.int .i64 1) (.int .i64 0) fun v89_9 =>
  vBool v89_9 fun c_18 => if c_18 = true then
   (vBuild Tryz.prog 52 [] fun v90_9 =>
   vSt (some 8) (ρ 8) v90_9 w fun w_31 =>
   leaveV ds w_31 fun W => vLd (.agg 8) (ρ 8) W fun r_18 => K (.tuple #[r_18, (.int .i64 1)]) W)
  else
  vNilP Tryz.prog (ρ 10) fun v93_9 =>
  vFA (some 27) v93_9 fun v94_9 =>
  vLd (.agg 8) v94_9 w fun v95_9 =>
  vSt (some 8) (ρ 8) v95_9 w fun w_32 =>
  leaveV ds w_32 fun W => vLd (.agg 8) (ρ 8) W fun r_19 => K (.tuple #[r_19, (.int .i64 0)]) W

def F18J7 (K : Value → World → Prop) (ρ : Env) (ds : List Nat) (w : World) : Prop :=
  vBool (ρ 72) fun c_12 => if c_12 = true then
   (CallK Tryz.prog 62 #[(ρ 10)] w fun v78 w_22 =>
   vBin (.int .i64) .neq v78 (.int .i64 0) fun v89_6 =>
  vBool v89_6 fun c_13 => if c_13 = true then
   (vBuild Tryz.prog 52 [] fun v90_6 =>
   vSt (some 8) (ρ 8) v90_6 w_22 fun w_23 =>
   leaveV ds w_23 fun W => vLd (.agg 8) (ρ 8) W fun r_12 => K (.tuple #[r_12, v78]) W)
  else
  vNilP Tryz.prog (ρ 10) fun v93_6 =>
  vFA (some 27) v93_6 fun v94_6 =>
  vLd (.agg 8) v94_6 w_22 fun v95_6 =>
  vSt (some 8) (ρ 8) v95_6 w_22 fun w_24 =>
  leaveV ds w_24 fun W => vLd (.agg 8) (ρ 8) W fun r_13 => K (.tuple #[r_13, (.int .i64 0)]) W)
  else
  joinF [8, 10, 31, 79] (fun J8 =>
  vBin (.int .i64) .eql (ρ 31) (.int .i64 27) fun v80 =>
  vBool v80 fun c_14 => if c_14 = true then
   (J8 [(ρ 8), (ρ 10), (ρ 31), v80] ds w)
  else
  vBin (.int .i64) .eql (ρ 31) (.int .i64 28) fun v81 =>
  J8 [(ρ 8), (ρ 10), (ρ 31), v81] ds w)
  (F18J8 K)

def F18J6 (K : Value → World → Prop) (ρ : Env) (ds : List Nat) (w : World) : Prop :=
  vBool (ρ 65) fun c_10 => if c_10 = true then
   (CallK Tryz.prog 61 #[(ρ 10)] w fun v71 w_19 =>
   vBin (.int .i64) .neq v71 (.int .i64 0) fun v89_5 =>
  vBool v89_5 fun c_11 => if c_11 = true then
   (vBuild Tryz.prog 52 [] fun v90_5 =>
   vSt (some 8) (ρ 8) v90_5 w_19 fun w_20 =>
   leaveV ds w_20 fun W => vLd (.agg 8) (ρ 8) W fun r_10 => K (.tuple #[r_10, v71]) W)
  else
  vNilP Tryz.prog (ρ 10) fun v93_5 =>
  vFA (some 27) v93_5 fun v94_5 =>
  vLd (.agg 8) v94_5 w_19 fun v95_5 =>
  vSt (some 8) (ρ 8) v95_5 w_19 fun w_21 =>
  leaveV ds w_21 fun W => vLd (.agg 8) (ρ 8) W fun r_11 => K (.tuple #[r_11, (.int .i64 0)]) W)
  else
  joinF [8, 10, 31, 72] (fun J7 =>
  vBin (.int .i64) .eql (ρ 31) (.int .i64 24) fun v73 =>
  vBool v73 fun c_12 => if c_12 = true then
   (J7 [(ρ 8), (ρ 10), (ρ 31), v73] ds w)
  else
  vBin (.int .i64) .eql (ρ 31) (.int .i64 25) fun v74 =>
  vBool v74 fun c_13 => if c_13 = true then
   (J7 [(ρ 8), (ρ 10), (ρ 31), v74] ds w)
  else
  vBin (.int .i64) .eql (ρ 31) (.int .i64 26) fun v75 =>
  vBool v75 fun c_14 => if c_14 = true then
   (J7 [(ρ 8), (ρ 10), (ρ 31), v75] ds w)
  else
  vBin (.int .i64) .eql (ρ 31) (.int .i64 29) fun v76 =>
  J7 [(ρ 8), (ρ 10), (ρ 31), v76] ds w)
  (F18J7 K)

def F18J5 (K : Value → World → Prop) (ρ : Env) (ds : List Nat) (w : World) : Prop :=
  vBool (ρ 56) fun c_8 => if c_8 = true then
   (CallK Tryz.prog 60 #[(ρ 10)] w fun v64 w_16 =>
   vBin (.int .i64) .neq v64 (.int .i64 0) fun v89_4 =>
  vBool v89_4 fun c_9 => if c_9 = true then
   (vBuild Tryz.prog 52 [] fun v90_4 =>
   vSt (some 8) (ρ 8) v90_4 w_16 fun w_17 =>
   leaveV ds w_17 fun W => vLd (.agg 8) (ρ 8) W fun r_8 => K (.tuple #[r_8, v64]) W)
  else
  vNilP Tryz.prog (ρ 10) fun v93_4 =>
  vFA (some 27) v93_4 fun v94_4 =>
  vLd (.agg 8) v94_4 w_16 fun v95_4 =>
  vSt (some 8) (ρ 8) v95_4 w_16 fun w_18 =>
  leaveV ds w_18 fun W => vLd (.agg 8) (ρ 8) W fun r_9 => K (.tuple #[r_9, (.int .i64 0)]) W)
  else
  joinF [8, 10, 31, 65] (fun J6 =>
  vBin (.int .i64) .eql (ρ 31) (.int .i64 19) fun v66 =>
  vBool v66 fun c_10 => if c_10 = true then
   (J6 [(ρ 8), (ρ 10), (ρ 31), v66] ds w)
  else
  vBin (.int .i64) .eql (ρ 31) (.int .i64 20) fun v67 =>
  vBool v67 fun c_11 => if c_11 = true then
   (J6 [(ρ 8), (ρ 10), (ρ 31), v67] ds w)
  else
  vBin (.int .i64) .eql (ρ 31) (.int .i64 21) fun v68 =>
  vBool v68 fun c_12 => if c_12 = true then
   (J6 [(ρ 8), (ρ 10), (ρ 31), v68] ds w)
  else
  vBin (.int .i64) .eql (ρ 31) (.int .i64 32) fun v69 =>
  J6 [(ρ 8), (ρ 10), (ρ 31), v69] ds w)
  (F18J6 K)

def F18J4 (K : Value → World → Prop) (ρ : Env) (ds : List Nat) (w : World) : Prop :=
  vBool (ρ 48) fun c_6 => if c_6 = true then
   (CallK Tryz.prog 59 #[(ρ 10)] w fun v55 w_13 =>
   vBin (.int .i64) .neq v55 (.int .i64 0) fun v89_3 =>
  vBool v89_3 fun c_7 => if c_7 = true then
   (vBuild Tryz.prog 52 [] fun v90_3 =>
   vSt (some 8) (ρ 8) v90_3 w_13 fun w_14 =>
   leaveV ds w_14 fun W => vLd (.agg 8) (ρ 8) W fun r_6 => K (.tuple #[r_6, v55]) W)
  else
  vNilP Tryz.prog (ρ 10) fun v93_3 =>
  vFA (some 27) v93_3 fun v94_3 =>
  vLd (.agg 8) v94_3 w_13 fun v95_3 =>
  vSt (some 8) (ρ 8) v95_3 w_13 fun w_15 =>
  leaveV ds w_15 fun W => vLd (.agg 8) (ρ 8) W fun r_7 => K (.tuple #[r_7, (.int .i64 0)]) W)
  else
  joinF [8, 10, 31, 56] (fun J5 =>
  vBin (.int .i64) .eql (ρ 31) (.int .i64 14) fun v57 =>
  vBool v57 fun c_8 => if c_8 = true then
   (J5 [(ρ 8), (ρ 10), (ρ 31), v57] ds w)
  else
  vBin (.int .i64) .eql (ρ 31) (.int .i64 15) fun v58 =>
  vBool v58 fun c_9 => if c_9 = true then
   (J5 [(ρ 8), (ρ 10), (ρ 31), v58] ds w)
  else
  vBin (.int .i64) .eql (ρ 31) (.int .i64 16) fun v59 =>
  vBool v59 fun c_10 => if c_10 = true then
   (J5 [(ρ 8), (ρ 10), (ρ 31), v59] ds w)
  else
  vBin (.int .i64) .eql (ρ 31) (.int .i64 17) fun v60 =>
  vBool v60 fun c_11 => if c_11 = true then
   (J5 [(ρ 8), (ρ 10), (ρ 31), v60] ds w)
  else
  vBin (.int .i64) .eql (ρ 31) (.int .i64 22) fun v61 =>
  vBool v61 fun c_12 => if c_12 = true then
   (J5 [(ρ 8), (ρ 10), (ρ 31), v61] ds w)
  else
  vBin (.int .i64) .eql (ρ 31) (.int .i64 23) fun v62 =>
  J5 [(ρ 8), (ρ 10), (ρ 31), v62] ds w)
  (F18J5 K)

def F18J3 (K : Value → World → Prop) (ρ : Env) (ds : List Nat) (w : World) : Prop :=
  vBool (ρ 39) fun c_4 => if c_4 = true then
   (CallK Tryz.prog 58 #[(ρ 10)] w fun v47 w_10 =>
   vBin (.int .i64) .neq v47 (.int .i64 0) fun v89_2 =>
  vBool v89_2 fun c_5 => if c_5 = true then
   (vBuild Tryz.prog 52 [] fun v90_2 =>
   vSt (some 8) (ρ 8) v90_2 w_10 fun w_11 =>
   leaveV ds w_11 fun W => vLd (.agg 8) (ρ 8) W fun r_4 => K (.tuple #[r_4, v47]) W)
  else
  vNilP Tryz.prog (ρ 10) fun v93_2 =>
  vFA (some 27) v93_2 fun v94_2 =>
  vLd (.agg 8) v94_2 w_10 fun v95_2 =>
  vSt (some 8) (ρ 8) v95_2 w_10 fun w_12 =>
  leaveV ds w_12 fun W => vLd (.agg 8) (ρ 8) W fun r_5 => K (.tuple #[r_5, (.int .i64 0)]) W)
  else
  joinF [8, 10, 31, 48] (fun J4 =>
  vBin (.int .i64) .eql (ρ 31) (.int .i64 9) fun v49 =>
  vBool v49 fun c_6 => if c_6 = true then
   (J4 [(ρ 8), (ρ 10), (ρ 31), v49] ds w)
  else
  vBin (.int .i64) .eql (ρ 31) (.int .i64 10) fun v50 =>
  vBool v50 fun c_7 => if c_7 = true then
   (J4 [(ρ 8), (ρ 10), (ρ 31), v50] ds w)
  else
  vBin (.int .i64) .eql (ρ 31) (.int .i64 11) fun v51 =>
  vBool v51 fun c_8 => if c_8 = true then
   (J4 [(ρ 8), (ρ 10), (ρ 31), v51] ds w)
  else
  vBin (.int .i64) .eql (ρ 31) (.int .i64 12) fun v52 =>
  vBool v52 fun c_9 => if c_9 = true then
   (J4 [(ρ 8), (ρ 10), (ρ 31), v52] ds w)
  else
  vBin (.int .i64) .eql (ρ 31) (.int .i64 13) fun v53 =>
  J4 [(ρ 8), (ρ 10), (ρ 31), v53] ds w)
  (F18J4 K)

def F18J2 (K : Value → World → Prop) (ρ : Env) (ds : List Nat) (w : World) : Prop :=
  vBool (ρ 32) fun c_2 => if c_2 = true then
   (CallK Tryz.prog 57 #[(ρ 10)] w fun v38 w_7 =>
   vBin (.int .i64) .neq v38 (.int .i64 0) fun v89 =>
  vBool v89 fun c_3 => if c_3 = true then
   (vBuild Tryz.prog 52 [] fun v90 =>
   vSt (some 8) (ρ 8) v90 w_7 fun w_8 =>
   leaveV ds w_8 fun W => vLd (.agg 8) (ρ 8) W fun r_2 => K (.tuple #[r_2, v38]) W)
  else
  vNilP Tryz.prog (ρ 10) fun v93 =>
  vFA (some 27) v93 fun v94 =>
  vLd (.agg 8) v94 w_7 fun v95 =>
  vSt (some 8) (ρ 8) v95 w_7 fun w_9 =>
  leaveV ds w_9 fun W => vLd (.agg 8) (ρ 8) W fun r_3 => K (.tuple #[r_3, (.int .i64 0)]) W)
  else
  joinF [8, 10, 31, 39] (fun J3 =>
  vBin (.int .i64) .eql (ρ 31) (.int .i64 4) fun v40 =>
  vBool v40 fun c_4 => if c_4 = true then
   (J3 [(ρ 8), (ρ 10), (ρ 31), v40] ds w)
  else
  vBin (.int .i64) .eql (ρ 31) (.int .i64 5) fun v41 =>
  vBool v41 fun c_5 => if c_5 = true then
   (J3 [(ρ 8), (ρ 10), (ρ 31), v41] ds w)
  else
  vBin (.int .i64) .eql (ρ 31) (.int .i64 6) fun v42 =>
  vBool v42 fun c_6 => if c_6 = true then
   (J3 [(ρ 8), (ρ 10), (ρ 31), v42] ds w)
  else
  vBin (.int .i64) .eql (ρ 31) (.int .i64 7) fun v43 =>
  vBool v43 fun c_7 => if c_7 = true then
   (J3 [(ρ 8), (ρ 10), (ρ 31), v43] ds w)
  else
  vBin (.int .i64) .eql (ρ 31) (.int .i64 8) fun v44 =>
  vBool v44 fun c_8 => if c_8 = true then
   (J3 [(ρ 8), (ρ 10), (ρ 31), v44] ds w)
  else
  vBin (.int .i64) .eql (ρ 31) (.int .i64 18) fun v45 =>
  J3 [(ρ 8), (ρ 10), (ρ 31), v45] ds w)
  (F18J3 K)

def F18 (t0 : Value) (t1 : Value) (t2 : Value) (t3 : Value) (w : World) (K : Value → World → Prop) : Prop :=
  vBox 60 t2 w fun v6 w =>
  vAlloc Tryz.prog 52 w fun v8 w_2 =>
  CallK Tryz.prog 56 #[t0, t1] w_2 fun v15 w_3 =>
  vExt v15 0 fun v16 =>
  vExt v15 1 fun v17 =>
  vBin (.int .i64) .neq v17 (.int .i64 0) fun v19 =>
  vBool v19 fun c => if c = true then
   (vBuild Tryz.prog 52 [] fun v20 =>
   vSt (some 8) v8 v20 w_3 fun w_4 =>
   vLd (.agg 8) v8 w_4 fun r => K (.tuple #[r, v17]) w_4)
  else
  vLd (.agg 20) v6 w_3 fun v24 =>
  vNilP Tryz.prog v16 fun v26 =>
  vFA (some 1) v26 fun v27 =>
  vSt (some 20) v27 v24 w_3 fun w_5 =>
  vNilP Tryz.prog v16 fun v28 =>
  vFA (some 26) v28 fun v29 =>
  vSt (some 1) v29 t3 w_5 fun w_6 =>
  vFA (some 0) v6 fun v30 =>
  vLd .one v30 w_6 fun v31 =>
  joinF [8, 10, 31, 32] (fun J2 =>
  vBin (.int .i64) .eql v31 (.int .i64 1) fun v33 =>
  vBool v33 fun c_2 => if c_2 = true then
   (J2 [v8, v16, v31, v33] [] w_6)
  else
  vBin (.int .i64) .eql v31 (.int .i64 2) fun v34 =>
  vBool v34 fun c_3 => if c_3 = true then
   (J2 [v8, v16, v31, v34] [] w_6)
  else
  vBin (.int .i64) .eql v31 (.int .i64 3) fun v35 =>
  vBool v35 fun c_4 => if c_4 = true then
   (J2 [v8, v16, v31, v35] [] w_6)
  else
  vBin (.int .i64) .eql v31 (.int .i64 31) fun v36 =>
  J2 [v8, v16, v31, v36] [] w_6)
  (F18J2 K)

def tab18 : Tab := { sel := [], plan := [], join := [(44, [8, 10, 31, 79]), (41, [8, 10, 31, 72]), (36, [8, 10, 31, 65]), (31, [8, 10, 31, 56]), (24, [8, 10, 31, 48]), (18, [8, 10, 31, 39]), (11, [8, 10, 31, 32])] }

theorem F18_eq (t0 : Value) (t1 : Value) (t2 : Value) (t3 : Value) (w : World) (K : Value → World → Prop) : enterV Tryz.prog tab18 Tryz.f18 [t0, t1, t2, t3] w K = F18 t0 t1 t2 t3 w K := by kernel_rfl

theorem F18_ok {t0 : Value} {t1 : Value} {t2 : Value} {t3 : Value} {w : World} {K : Value → World → Prop} (h : F18 t0 t1 t2 t3 w K) : Ret Tryz.prog 18 #[t0, t1, t2, t3] w K :=
  enter_sound (T := tab18) (args := [t0, t1, t2, t3]) Tryz.func18 Tryz.call18 mixed (by kernel_rfl) (by rw [F18_eq]; exact h)

def F122 (t0 : Value) (t1 : Value) (t2 : Value) (t3 : Value) (w : World) (K : Value → World → Prop) : Prop :=
  vBox 56 t1 w fun v5 w =>
  vAlloc Tryz.prog 62 w fun v9 w_2 =>
  vLd (.agg 2) v5 w_2 fun v15 =>
  CallK Tryz.prog 126 #[t0, v15] w_2 fun v16 w_3 =>
  vExt v16 0 fun v17 =>
  vExt v16 1 fun v18 =>
  vAlloc Tryz.prog 62 w_3 fun v11 w_4 =>
  vSt (some 7) v11 v17 w_4 fun w_5 =>
  vBin (.int .i64) .neq v18 (.int .i64 0) fun v21 =>
  vBool v21 fun c => if c = true then
   (drawF w_5 fun S =>
   vLdS S (.agg 7) v11 fun v22 =>
   (vSt (some 7) v9 v22 w_5.drew fun w_6 =>
   (vLd (.agg 7) v9 w_6 fun r => K (.tuple #[(.pointer none), r, v18]) w_6)) ∧
   (True))
  else
  vFA (some 1) v11 fun v25 =>
  vLd .one v25 w_5 fun v26 =>
  vBin (.int .i64) .neq v26 t2 fun v28 =>
  vBool v28 fun c_2 => if c_2 = true then
   (drawF w_5 fun S_2 =>
   vLdS S_2 (.agg 7) v11 fun v29 =>
   (vSt (some 7) v9 v29 w_5.drew fun w_7 =>
   (vLd (.agg 7) v9 w_7 fun r_2 => K (.tuple #[(.pointer none), r_2, (.int .i64 5)]) w_7)) ∧
   (True))
  else
  vFA (some 5) v11 fun v32 =>
  vLd (.agg 2) v32 w_5 fun v33 =>
  vCallV Tryz.prog t3 [v33] w_5 fun v34 w_8 =>
  vUn .not v34 fun v35 =>
  vBool v35 fun c_3 => if c_3 = true then
   (drawF w_8 fun S_3 =>
   vLdS S_3 (.agg 7) v11 fun v36 =>
   (vSt (some 7) v9 v36 w_8.drew fun w_9 =>
   (vLd (.agg 7) v9 w_9 fun r_3 => K (.tuple #[(.pointer none), r_3, (.int .i64 3)]) w_9)) ∧
   (True))
  else
  drawF w_8 fun S_4 =>
  vNilP Tryz.prog t0 fun v38 =>
  vFA (some 0) v38 fun v39 =>
  vLdS S_4 .one v39 fun v40 =>
  vNilP Tryz.prog v40 fun v41 =>
  vFA (some 2) v41 fun v42 =>
  vLdS S_4 .one v42 fun v43 =>
  vFA (some 1) v5 fun v44 =>
  vLdS S_4 .one v44 fun v45 =>
  vLdS S_4 (.agg 7) v11 fun v47 =>
  (vLookup Tryz.prog 158 v43 v45 false w_8.drew fun v46 =>
  S_4 w_8.drew ∧ ((vSt (some 7) v9 v47 w_8.drew fun w_10 =>
  (vLd (.agg 7) v9 w_10 fun r_4 => K (.tuple #[v46, r_4, (.int .i64 0)]) w_10)) ∧
  (True))) ∧
  (True)

def tab122 : Tab := { sel := [], plan := [(3, (.take 0 (.take 1 (.take 2 (.alt 3 (.take 4 .done) .stop))))), (5, (.take 0 (.take 1 (.alt 2 (.take 3 .done) .stop)))), (7, (.take 0 (.take 1 (.alt 2 (.take 3 .done) .stop)))), (8, (.take 0 (.take 1 (.take 2 (.take 3 (.take 4 (.take 5 (.take 6 (.take 7 (.take 8 (.take 10 (.alt 9 (.take 11 (.alt 12 (.take 13 .done) .stop)) .stop))))))))))))], join := [] }

theorem F122_eq (t0 : Value) (t1 : Value) (t2 : Value) (t3 : Value) (w : World) (K : Value → World → Prop) : enterV Tryz.prog tab122 Tryz.f122 [t0, t1, t2, t3] w K = F122 t0 t1 t2 t3 w K := by kernel_rfl

theorem F122_ok {t0 : Value} {t1 : Value} {t2 : Value} {t3 : Value} {w : World} {K : Value → World → Prop} (h : F122 t0 t1 t2 t3 w K) : Ret Tryz.prog 122 #[t0, t1, t2, t3] w K :=
  enter_sound (T := tab122) (args := [t0, t1, t2, t3]) Tryz.func122 Tryz.call122 mixed (by kernel_rfl) (by rw [F122_eq]; exact h)

def F123 (t0 : Value) (t1 : Value) (w : World) (K : Value → World → Prop) : Prop :=
  vBox 49 t1 w fun v3 w =>
  drawF w fun S =>
  vNilP Tryz.prog t0 fun v6 =>
  vFA (some 22) v6 fun v7 =>
  vLdS S (.agg 2) v7 fun v8 =>
  vLdS S (.agg 2) v3 fun v9 =>
  (CallK Tryz.prog 198 #[v8, v9] w.drew fun v10 w_2 =>
  S w_2 ∧ (K v10 w_2)) ∧
  (True)

def tab123 : Tab := { sel := [], plan := [(1, (.take 0 (.take 1 (.take 2 (.take 3 (.take 4 (.alt 5 (.take 6 .done) .stop)))))))], join := [] }

theorem F123_eq (t0 : Value) (t1 : Value) (w : World) (K : Value → World → Prop) : enterV Tryz.prog tab123 Tryz.f123 [t0, t1] w K = F123 t0 t1 w K := by kernel_rfl

theorem F123_ok {t0 : Value} {t1 : Value} {w : World} {K : Value → World → Prop} (h : F123 t0 t1 w K) : Ret Tryz.prog 123 #[t0, t1] w K :=
  enter_sound (T := tab123) (args := [t0, t1]) Tryz.func123 Tryz.call123 mixed (by kernel_rfl) (by rw [F123_eq]; exact h)

def F125 (t0 : Value) (t1 : Value) (w : World) (K : Value → World → Prop) : Prop :=
  vAlloc Tryz.prog 62 w fun v4 w =>
  vNilP Tryz.prog t0 fun v10 =>
  vFA (some 0) v10 fun v11 =>
  vLd .one v11 w fun v12 =>
  vNilP Tryz.prog v12 fun v13 =>
  vFA (some 0) v13 fun v14 =>
  vLd .one v14 w fun v15 =>
  CallK Tryz.prog 65 #[v15, t1] w fun v17 w_2 =>
  vExt v17 0 fun v18 =>
  vExt v17 1 fun v19 =>
  vAlloc Tryz.prog 62 w_2 fun v6 w_3 =>
  vSt (some 7) v6 v18 w_3 fun w_4 =>
  vUn .not v19 fun v21 =>
  vBool v21 fun g => if g = true then
  (vBuild Tryz.prog 62 [] fun v34 =>
  vSt (some 7) v4 v34 w_4 fun w_5 =>
  vLd (.agg 7) v4 w_5 fun r => K (.tuple #[r, (.int .i64 4)]) w_5)
  else
  (vFA (some 1) v6 fun v23 =>
  vLd .one v23 w_4 fun v24 =>
  vBin (.int .i64) .neq v24 (.int .i64 1) fun v25 =>
  vBool v25 fun g_2 => if g_2 = true then
  (vBuild Tryz.prog 62 [] fun v34_2 =>
  vSt (some 7) v4 v34_2 w_4 fun w_6 =>
  vLd (.agg 7) v4 w_6 fun r_2 => K (.tuple #[r_2, (.int .i64 4)]) w_6)
  else
  (vFA (some 5) v6 fun v29 =>
  vLd (.agg 2) v29 w_4 fun v30 =>
  CallK Tryz.prog 123 #[t0, v30] w_4 fun v31 w_7 =>
  vUn .not v31 fun v32 =>
  vBool v32 fun c => if c = true then
   (vBuild Tryz.prog 62 [] fun v34_3 =>
   vSt (some 7) v4 v34_3 w_7 fun w_8 =>
   vLd (.agg 7) v4 w_8 fun r_3 => K (.tuple #[r_3, (.int .i64 4)]) w_8)
  else
  vLd (.agg 7) v6 w_7 fun v35 =>
  vSt (some 7) v4 v35 w_7 fun w_9 =>
  vLd (.agg 7) v4 w_9 fun r_4 => K (.tuple #[r_4, (.int .i64 0)]) w_9))

def tab125 : Tab := { sel := [], plan := [], join := [] }

theorem F125_eq (t0 : Value) (t1 : Value) (w : World) (K : Value → World → Prop) : enterV Tryz.prog tab125 Tryz.f125 [t0, t1] w K = F125 t0 t1 w K := by kernel_rfl

theorem F125_ok {t0 : Value} {t1 : Value} {w : World} {K : Value → World → Prop} (h : F125 t0 t1 w K) : Ret Tryz.prog 125 #[t0, t1] w K :=
  enter_sound (T := tab125) (args := [t0, t1]) Tryz.func125 Tryz.call125 mixed (by kernel_rfl) (by rw [F125_eq]; exact h)

def F126J1 (K : Value → World → Prop) (ρ : Env) (ds : List Nat) (w : World) : Prop :=
  vBool (ρ 33) fun c => if c = true then
   (vBuild Tryz.prog 62 [] fun v34 =>
   vSt (some 7) (ρ 4) v34 w fun w_6 =>
   leaveV ds w_6 fun W => vLd (.agg 7) (ρ 4) W fun r => K (.tuple #[r, (.int .i64 4)]) W)
  else
  drawF w fun S =>
  vNilP Tryz.prog (ρ 0) fun v37 =>
  vFA (some 0) v37 fun v38 =>
  vLdS S .one v38 fun v39 =>
  vNilP Tryz.prog v39 fun v40 =>
  vFA (some 0) v40 fun v41 =>
  vLdS S .one v41 fun v42 =>
  vFA (some 1) (ρ 3) fun v43 =>
  vLdS S .one v43 fun v44 =>
  (CallK Tryz.prog 65 #[v42, v44] w.drew fun v45 w_7 =>
  S w_7 ∧ (vExt v45 0 fun v46 =>
  vExt v45 1 fun v47 =>
  (vAlloc Tryz.prog 62 w_7 fun v8 w_8 =>
  S w_8 ∧ ((vSt (some 7) v8 v46 w_8 fun w_9 =>
  (vLd (.agg 7) v8 w_9 fun v48 =>
  vSt (some 7) (ρ 4) v48 w_9 fun w_10 =>
  leaveV ds w_10 fun W => vLd (.agg 7) (ρ 4) W fun r_2 => K (.tuple #[r_2, (.int .i64 0)]) W)) ∧
  (True))) ∧
  (True))) ∧
  ((vAlloc Tryz.prog 62 w.drew fun v8_2 w_11 =>
  S w_11 ∧ ((CallK Tryz.prog 65 #[v42, v44] w_11 fun v45_2 w_12 =>
  S w_12 ∧ (vExt v45_2 0 fun v46_2 =>
  vExt v45_2 1 fun v47_2 =>
  (vSt (some 7) v8_2 v46_2 w_12 fun w_13 =>
  (vLd (.agg 7) v8_2 w_13 fun v48_2 =>
  vSt (some 7) (ρ 4) v48_2 w_13 fun w_14 =>
  leaveV ds w_14 fun W => vLd (.agg 7) (ρ 4) W fun r_3 => K (.tuple #[r_3, (.int .i64 0)]) W)) ∧
  (True))) ∧
  (True))) ∧
  (True))

def F126 (t0 : Value) (t1 : Value) (w : World) (K : Value → World → Prop) : Prop :=
  vBox 56 t1 w fun v3 w =>
  vAlloc Tryz.prog 62 w fun v4 w_2 =>
  vFA (some 0) v3 fun v12 =>
  vLd .one v12 w_2 fun v13 =>
  CallK Tryz.prog 125 #[t0, v13] w_2 fun v14 w_3 =>
  vExt v14 0 fun v15 =>
  vExt v14 1 fun v16 =>
  vAlloc Tryz.prog 62 w_3 fun v6 w_4 =>
  vSt (some 7) v6 v15 w_4 fun w_5 =>
  joinF [0, 3, 4, 33] (fun J1 =>
  drawF w_5 fun S =>
  vBin (.int .i64) .neq v16 (.int .i64 0) fun v18 =>
  vBool v18 fun g => if g = true then
  ((J1 [t0, v3, v4, (.bool true)] [] w_5.drew) ∧
  (True))
  else
  (vNilP Tryz.prog t0 fun v21 =>
  vFA (some 0) v21 fun v22 =>
  vLdS S .one v22 fun v23 =>
  vNilP Tryz.prog v23 fun v24 =>
  vFA (some 0) v24 fun v25 =>
  vLdS S .one v25 fun v26 =>
  vFA (some 0) v3 fun v27 =>
  vLdS S .one v27 fun v28 =>
  vFA (some 1) v3 fun v29 =>
  vLdS S .one v29 fun v30 =>
  (CallK Tryz.prog 199 #[v26, v28, v30] w_5.drew fun v31 w_6 =>
  S w_6 ∧ (vUn .not v31 fun v32 =>
  J1 [t0, v3, v4, v32] [] w_6)) ∧
  (True)))
  (F126J1 K)

def tab126 : Tab := { sel := [], plan := [(2, (.take 0 (.take 1 (.take 2 (.take 3 (.take 4 (.take 5 (.take 6 (.take 7 (.take 8 (.take 9 (.take 10 (.take 11 (.take 12 (.take 13 (.alt 14 (.take 15 (.take 16 .done)) .stop)))))))))))))))), (4, (.take 0 (.take 1 (.take 2 (.take 3 (.take 4 (.take 5 (.take 6 (.take 7 (.take 8 (.alt 9 (.take 10 (.take 11 (.take 12 (.alt 13 (.alt 14 (.take 15 .done) .stop) .stop)))) (.alt 13 (.alt 9 (.take 10 (.take 11 (.take 12 (.alt 14 (.take 15 .done) .stop)))) .stop) .stop))))))))))))], join := [(3, [0, 3, 4, 33])] }

theorem F126_eq (t0 : Value) (t1 : Value) (w : World) (K : Value → World → Prop) : enterV Tryz.prog tab126 Tryz.f126 [t0, t1] w K = F126 t0 t1 w K := by kernel_rfl

theorem F126_ok {t0 : Value} {t1 : Value} {w : World} {K : Value → World → Prop} (h : F126 t0 t1 w K) : Ret Tryz.prog 126 #[t0, t1] w K :=
  enter_sound (T := tab126) (args := [t0, t1]) Tryz.func126 Tryz.call126 mixed (by kernel_rfl) (by rw [F126_eq]; exact h)

def F127 (t0 : Value) (t1 : Value) (w : World) (K : Value → World → Prop) : Prop :=
  vBox 49 t1 w fun v3 w =>
  drawF w fun S =>
  vNilP Tryz.prog t0 fun v6 =>
  vFA (some 22) v6 fun v7 =>
  vLdS S (.agg 2) v7 fun v8 =>
  vLdS S (.agg 2) v3 fun v9 =>
  (CallK Tryz.prog 200 #[v8, v9] w.drew fun v10 w_2 =>
  S w_2 ∧ (K v10 w_2)) ∧
  (True)

def tab127 : Tab := { sel := [], plan := [(1, (.take 0 (.take 1 (.take 2 (.take 3 (.take 4 (.alt 5 (.take 6 .done) .stop)))))))], join := [] }

theorem F127_eq (t0 : Value) (t1 : Value) (w : World) (K : Value → World → Prop) : enterV Tryz.prog tab127 Tryz.f127 [t0, t1] w K = F127 t0 t1 w K := by kernel_rfl

theorem F127_ok {t0 : Value} {t1 : Value} {w : World} {K : Value → World → Prop} (h : F127 t0 t1 w K) : Ret Tryz.prog 127 #[t0, t1] w K :=
  enter_sound (T := tab127) (args := [t0, t1]) Tryz.func127 Tryz.call127 mixed (by kernel_rfl) (by rw [F127_eq]; exact h)

def F65 (t0 : Value) (t1 : Value) (w : World) (K : Value → World → Prop) : Prop :=
  vAlloc Tryz.prog 62 w fun v4 w =>
  CallK Tryz.prog 144 #[t0, t1] w fun v10 w_2 =>
  vPtr .eql v10 (.pointer none) w_2 fun v12 =>
  vBool v12 fun c => if c = true then
   (vBuild Tryz.prog 62 [] fun v13 =>
   vSt (some 7) v4 v13 w_2 fun w_3 =>
   vLd (.agg 7) v4 w_3 fun r => K (.tuple #[r, (.bool false)]) w_3)
  else
  vNilP Tryz.prog v10 fun v15 =>
  vFA (some 0) v15 fun v16 =>
  vLd (.agg 7) v16 w_2 fun v17 =>
  vAlloc Tryz.prog 62 w_2 fun v7 w_4 =>
  vSt (some 7) v7 v17 w_4 fun w_5 =>
  vFA (some 5) v7 fun v18 =>
  vLd (.agg 2) v18 w_5 fun v19 =>
  CallK Tryz.prog 145 #[v19] w_5 fun v20 w_6 =>
  vFA (some 5) v7 fun v21 =>
  vSt (some 2) v21 v20 w_6 fun w_7 =>
  vLd (.agg 7) v7 w_7 fun v22 =>
  vSt (some 7) v4 v22 w_7 fun w_8 =>
  vLd (.agg 7) v4 w_8 fun r_2 => K (.tuple #[r_2, (.bool true)]) w_8

def tab65 : Tab := { sel := [], plan := [], join := [] }

theorem F65_eq (t0 : Value) (t1 : Value) (w : World) (K : Value → World → Prop) : enterV Tryz.prog tab65 Tryz.f65 [t0, t1] w K = F65 t0 t1 w K := by kernel_rfl

theorem F65_ok {t0 : Value} {t1 : Value} {w : World} {K : Value → World → Prop} (h : F65 t0 t1 w K) : Ret Tryz.prog 65 #[t0, t1] w K :=
  enter_sound (T := tab65) (args := [t0, t1]) Tryz.func65 Tryz.call65 mixed (by kernel_rfl) (by rw [F65_eq]; exact h)

def F144 (t0 : Value) (t1 : Value) (w : World) (K : Value → World → Prop) : Prop :=
  vPtr .eql t0 (.pointer none) w fun v6 =>
  vBool v6 fun c => if c = true then
   (K (.pointer none) w)
  else
  vNilP Tryz.prog t0 fun v8 =>
  vFA (some 0) v8 fun v9 =>
  vLd .one v9 w fun v10 =>
  vLookup Tryz.prog 357 v10 t1 false w fun v12 =>
  K v12 w

def tab144 : Tab := { sel := [], plan := [], join := [] }

theorem F144_eq (t0 : Value) (t1 : Value) (w : World) (K : Value → World → Prop) : enterV Tryz.prog tab144 Tryz.f144 [t0, t1] w K = F144 t0 t1 w K := by kernel_rfl

theorem F144_ok {t0 : Value} {t1 : Value} {w : World} {K : Value → World → Prop} (h : F144 t0 t1 w K) : Ret Tryz.prog 144 #[t0, t1] w K :=
  enter_sound (T := tab144) (args := [t0, t1]) Tryz.func144 Tryz.call144 mixed (by kernel_rfl) (by rw [F144_eq]; exact h)

def F145 (t0 : Value) (w : World) (K : Value → World → Prop) : Prop :=
  vBox 49 t0 w fun v1 w =>
  vAlloc Tryz.prog 49 w fun v2 w_2 =>
  drawF w_2 fun S =>
  vFA (some 0) v1 fun v3 =>
  vLdS S .one v3 fun v4 =>
  vFA (some 1) v1 fun v5 =>
  vLdS S .one v5 fun v6 =>
  (CallK Tryz.prog 146 #[v6] w_2.drew fun v7 w_3 =>
  S w_3 ∧ (vBuild Tryz.prog 49 [(0, v4), (1, v7)] fun v8 =>
  (vSt (some 2) v2 v8 w_3 fun w_4 =>
  (vLd (.agg 2) v2 w_4 fun r => K r w_4)) ∧
  (True))) ∧
  (True)

def tab145 : Tab := { sel := [], plan := [(1, (.take 0 (.take 1 (.take 2 (.take 3 (.alt 4 (.take 5 (.alt 6 .done .stop)) .stop))))))], join := [] }

theorem F145_eq (t0 : Value) (w : World) (K : Value → World → Prop) : enterV Tryz.prog tab145 Tryz.f145 [t0] w K = F145 t0 w K := by kernel_rfl

theorem F145_ok {t0 : Value} {w : World} {K : Value → World → Prop} (h : F145 t0 w K) : Ret Tryz.prog 145 #[t0] w K :=
  enter_sound (T := tab145) (args := [t0]) Tryz.func145 Tryz.call145 mixed (by kernel_rfl) (by rw [F145_eq]; exact h)

def F146 (t0 : Value) (w : World) (K : Value → World → Prop) : Prop :=
  vBin (.slice 2) .eql t0 (.slice none 0 0) fun v4 =>
  vBool v4 fun c => if c = true then
   (K (.slice none 0 0) w)
  else
  vBuildSlice Tryz.prog 47 0 [] w fun v5 w =>
  vAppend Tryz.prog 47 47 v5 t0 w fun v7 w_2 =>
  K v7 w_2

def tab146 : Tab := { sel := [], plan := [], join := [] }

theorem F146_eq (t0 : Value) (w : World) (K : Value → World → Prop) : enterV Tryz.prog tab146 Tryz.f146 [t0] w K = F146 t0 w K := by kernel_rfl

theorem F146_ok {t0 : Value} {w : World} {K : Value → World → Prop} (h : F146 t0 w K) : Ret Tryz.prog 146 #[t0] w K :=
  enter_sound (T := tab146) (args := [t0]) Tryz.func146 Tryz.call146 mixed (by kernel_rfl) (by rw [F146_eq]; exact h)

def F148 (t0 : Value) (t1 : Value) (w : World) (K : Value → World → Prop) : Prop :=
  CallK Tryz.prog 144 #[t0, t1] w fun v9 w =>
  vPtr .eql v9 (.pointer none) w fun v12 =>
  vBool v12 fun c => if c = true then
   (K (.tuple #[(.pointer none), (.int .i64 4)]) w)
  else
  vNilP Tryz.prog v9 fun v15 =>
  vFA (some 0) v15 fun v16 =>
  vFA (some 1) v16 fun v17 =>
  vLd .one v17 w fun v18 =>
  vBin (.int .i64) .neq v18 (.int .i64 1) fun v19 =>
  vBool v19 fun c_2 => if c_2 = true then
   (K (.tuple #[(.pointer none), (.int .i64 5)]) w)
  else
  K (.tuple #[v9, (.int .i64 0)]) w

def tab148 : Tab := { sel := [], plan := [], join := [] }

theorem F148_eq (t0 : Value) (t1 : Value) (w : World) (K : Value → World → Prop) : enterV Tryz.prog tab148 Tryz.f148 [t0, t1] w K = F148 t0 t1 w K := by kernel_rfl

theorem F148_ok {t0 : Value} {t1 : Value} {w : World} {K : Value → World → Prop} (h : F148 t0 t1 w K) : Ret Tryz.prog 148 #[t0, t1] w K :=
  enter_sound (T := tab148) (args := [t0, t1]) Tryz.func148 Tryz.call148 mixed (by kernel_rfl) (by rw [F148_eq]; exact h)

def F199 (t0 : Value) (t1 : Value) (t2 : Value) (w : World) (K : Value → World → Prop) : Prop :=
  CallK Tryz.prog 148 #[t0, t1] w fun v12 w =>
  vExt v12 0 fun v13 =>
  vExt v12 1 fun v14 =>
  vBin (.int .i64) .eql v14 (.int .i64 0) fun v16 =>
  vBool v16 fun g => if g = true then
  (vNilP Tryz.prog v13 fun v19 =>
  vFA (some 7) v19 fun v20 =>
  CallK Tryz.prog 201 #[v20, t2] w fun v22 w_2 =>
  K v22 w_2)
  else
  (K (.bool false) w)

def tab199 : Tab := { sel := [], plan := [], join := [] }

theorem F199_eq (t0 : Value) (t1 : Value) (t2 : Value) (w : World) (K : Value → World → Prop) : enterV Tryz.prog tab199 Tryz.f199 [t0, t1, t2] w K = F199 t0 t1 t2 w K := by kernel_rfl

theorem F199_ok {t0 : Value} {t1 : Value} {t2 : Value} {w : World} {K : Value → World → Prop} (h : F199 t0 t1 t2 w K) : Ret Tryz.prog 199 #[t0, t1, t2] w K :=
  enter_sound (T := tab199) (args := [t0, t1, t2]) Tryz.func199 Tryz.call199 mixed (by kernel_rfl) (by rw [F199_eq]; exact h)

def F201 (t0 : Value) (t1 : Value) (w : World) (K : Value → World → Prop) : Prop :=
  vNilP Tryz.prog t0 fun v6 =>
  vFA (some 0) v6 fun v7 =>
  vLd .one v7 w fun v8 =>
  CallK Tryz.prog 272 #[v8, t1] w fun v10 w =>
  K v10 w

def tab201 : Tab := { sel := [], plan := [], join := [] }

theorem F201_eq (t0 : Value) (t1 : Value) (w : World) (K : Value → World → Prop) : enterV Tryz.prog tab201 Tryz.f201 [t0, t1] w K = F201 t0 t1 w K := by kernel_rfl

theorem F201_ok {t0 : Value} {t1 : Value} {w : World} {K : Value → World → Prop} (h : F201 t0 t1 w K) : Ret Tryz.prog 201 #[t0, t1] w K :=
  enter_sound (T := tab201) (args := [t0, t1]) Tryz.func201 Tryz.call201 mixed (by kernel_rfl) (by rw [F201_eq]; exact h)

def F272 (t0 : Value) (t1 : Value) (w : World) (K : Value → World → Prop) : Prop :=
  CallK Tryz.prog 310 #[t0, t1] w fun v7 w =>
  vBin (.int .i64) .geq v7 (.int .i64 0) fun v8 =>
  K v8 w

def tab272 : Tab := { sel := [], plan := [], join := [] }

theorem F272_eq (t0 : Value) (t1 : Value) (w : World) (K : Value → World → Prop) : enterV Tryz.prog tab272 Tryz.f272 [t0, t1] w K = F272 t0 t1 w K := by kernel_rfl

theorem F272_ok {t0 : Value} {t1 : Value} {w : World} {K : Value → World → Prop} (h : F272 t0 t1 w K) : Ret Tryz.prog 272 #[t0, t1] w K :=
  enter_sound (T := tab272) (args := [t0, t1]) Tryz.func272 Tryz.call272 mixed (by kernel_rfl) (by rw [F272_eq]; exact h)

def F310L1 (K : Value → World → Prop) (ρ : Env) (ds : List Nat) (w : World) (ag1 : List Value → List Nat → World → Prop) : Prop :=
  vBin (.int .i64) .lss (ρ 8) (ρ 7) fun v9 =>
  vBool v9 fun c => if c = true then
   (vIA (.slice 1) (ρ 0) (ρ 8) fun v14 =>
  vLd .one v14 w fun v15 =>
  vBin (.int .i64) .eql (ρ 1) v15 fun v16 =>
  vBool v16 fun c_2 => if c_2 = true then
   (leaveV ds w fun W => K (ρ 8) W)
  else
  vBin (.int .i64) .add (ρ 8) (.int .i64 1) fun v18 =>
  ag1 [(ρ 0), (ρ 1), (ρ 7), v18] ds w)
  else
  leaveV ds w fun W => K (.int .i64 (-1)) W

def F310 (t0 : Value) (t1 : Value) (w : World) (K : Value → World → Prop) : Prop :=
  vLen (.slice 1) t0 fun v7 =>
  loopF [0, 1, 7, 8] [t0, t1, v7, (.int .i64 0)] [] w (F310L1 K)

def tab310 : Tab := { sel := [(2, [0, 1, 7, 8])], plan := [], join := [] }

theorem F310_eq (t0 : Value) (t1 : Value) (w : World) (K : Value → World → Prop) : enterV Tryz.prog tab310 Tryz.f310 [t0, t1] w K = F310 t0 t1 w K := by kernel_rfl

theorem F310_ok {t0 : Value} {t1 : Value} {w : World} {K : Value → World → Prop} (h : F310 t0 t1 w K) : Ret Tryz.prog 310 #[t0, t1] w K :=
  enter_sound (T := tab310) (args := [t0, t1]) Tryz.func310 Tryz.call310 mixed (by kernel_rfl) (by rw [F310_eq]; exact h)

def F141J1 (K : Value → World → Prop) (ρ : Env) (ds : List Nat) (w : World) : Prop :=
  vBool (ρ 14) fun c_2 => if c_2 = true then
   (leaveV ds w fun W => K (.tuple #[(.bool false), (.int .i64 1)]) W)
  else
  vNilP Tryz.prog (ρ 0) fun v28 =>
  vFA (some 2) v28 fun v29 =>
  vLd .one v29 w fun v30 =>
  vLookup Tryz.prog 277 v30 (ρ 1) false w fun v32 =>
  vField (some (.one, 0)) v32 fun v33 =>
  vLen (.slice 1) v33 fun v34 =>
  vBin (.int .i64) .geq v34 (.int .i64 8) fun v35 =>
  vBool v35 fun c_3 => if c_3 = true then
   (leaveV ds w fun W => K (.tuple #[(.bool false), (.int .i64 7)]) W)
  else
  vNilP Tryz.prog (ρ 0) fun v37 =>
  vFA (some 2) v37 fun v38 =>
  vLd .one v38 w fun v39 =>
  vLookup Tryz.prog 277 v39 (ρ 1) false w fun v41 =>
  vAlloc Tryz.prog 275 w fun v8 w =>
  vSt (some 1) v8 v41 w fun w_2 =>
  CallK Tryz.prog 224 #[v8, (ρ 2)] w_2 fun v43 w_3 =>
  drawF w_3 fun S =>
  vNilP Tryz.prog (ρ 0) fun v45 =>
  vFA (some 2) v45 fun v46 =>
  vLdS S .one v46 fun v47 =>
  vLdS S (.agg 1) v8 fun v49 =>
  (vMapUpd Tryz.prog 277 v47 (ρ 1) v49 w_3.drew fun w_4 =>
  S w_4 ∧ (vNilP Tryz.prog (ρ 0) fun v52 =>
  vFA (some 1) v52 fun v53 =>
  vLd .one v53 w_4 fun v54 =>
  vLookup Tryz.prog 276 v54 (ρ 1) true w_4 fun v56 =>
  vExt v56 0 fun v57 =>
  vExt v56 1 fun v58 =>
  vAlloc Tryz.prog 301 w_4 fun v9 w_5 =>
  vSt (some 3) v9 v57 w_5 fun w_6 =>
  vNilP Tryz.prog (ρ 0) fun v60 =>
  vFA (some 1) v60 fun v61 =>
  vLd .one v61 w_6 fun v62 =>
  vDel Tryz.prog 276 v62 (ρ 1) w_6 fun z w_7 =>
  leaveV ds w_7 fun W => K (.tuple #[v58, (.int .i64 0)]) W)) ∧
  (True)

def F141 (t0 : Value) (t1 : Value) (t2 : Value) (w : World) (K : Value → World → Prop) : Prop :=
  vPtr .eql t0 (.pointer none) w fun v13 =>
  vBool v13 fun c => if c = true then
   (K (.tuple #[(.bool false), (.int .i64 4)]) w)
  else
  joinF [0, 1, 2, 14] (fun J1 =>
  CallK Tryz.prog 215 #[t1] w fun v16 w =>
  vUn .not v16 fun v17 =>
  vBool v17 fun g => if g = true then
  (J1 [t0, t1, t2, (.bool true)] [] w)
  else
  (vBin (.int .i64) .lss t2 (.int .i64 0) fun v20 =>
  vBool v20 fun g_2 => if g_2 = true then
  (J1 [t0, t1, t2, (.bool true)] [] w)
  else
  (vBin (.int .i64) .gtr t2 (.int .i64 255) fun v24 =>
  J1 [t0, t1, t2, v24] [] w)))
  (F141J1 K)

def tab141 : Tab := { sel := [], plan := [(9, (.take 0 (.take 1 (.take 2 (.take 3 (.take 4 (.take 5 (.alt 6 .done .stop))))))))], join := [(4, [0, 1, 2, 14])] }

theorem F141_eq (t0 : Value) (t1 : Value) (t2 : Value) (w : World) (K : Value → World → Prop) : enterV Tryz.prog tab141 Tryz.f141 [t0, t1, t2] w K = F141 t0 t1 t2 w K := by kernel_rfl

theorem F141_ok {t0 : Value} {t1 : Value} {t2 : Value} {w : World} {K : Value → World → Prop} (h : F141 t0 t1 t2 w K) : Ret Tryz.prog 141 #[t0, t1, t2] w K :=
  enter_sound (T := tab141) (args := [t0, t1, t2]) Tryz.func141 Tryz.call141 mixed (by kernel_rfl) (by rw [F141_eq]; exact h)

def F142 (t0 : Value) (t1 : Value) (w : World) (K : Value → World → Prop) : Prop :=
  vPtr .eql t0 (.pointer none) w fun v10 =>
  vBool v10 fun c => if c = true then
   (K (.tuple #[(.int .i64 0), (.bool false)]) w)
  else
  vNilP Tryz.prog t0 fun v12 =>
  vFA (some 2) v12 fun v13 =>
  vLd .one v13 w fun v14 =>
  vLookup Tryz.prog 277 v14 t1 false w fun v16 =>
  vAlloc Tryz.prog 275 w fun v6 w =>
  vSt (some 1) v6 v16 w fun w_2 =>
  CallK Tryz.prog 225 #[v6] w_2 fun v18 w_3 =>
  vExt v18 0 fun v19 =>
  vExt v18 1 fun v20 =>
  drawF w_3 fun S =>
  vNilP Tryz.prog t0 fun v22 =>
  vFA (some 2) v22 fun v23 =>
  vLdS S .one v23 fun v24 =>
  vLdS S (.agg 1) v6 fun v26 =>
  (vMapUpd Tryz.prog 277 v24 t1 v26 w_3.drew fun w_4 =>
  S w_4 ∧ (vFA (some 0) v6 fun v27 =>
  vLd .one v27 w_4 fun v28 =>
  vLen (.slice 1) v28 fun v29 =>
  vBin (.int .i64) .eql v29 (.int .i64 0) fun v30 =>
  vBool v30 fun c_2 => if c_2 = true then
   (vNilP Tryz.prog t0 fun v32 =>
   vFA (some 2) v32 fun v33 =>
   vLd .one v33 w_4 fun v34 =>
   vDel Tryz.prog 277 v34 t1 w_4 fun z w_5 =>
   K (.tuple #[v19, v20]) w_5)
  else
  K (.tuple #[v19, v20]) w_4)) ∧
  (True)

def tab142 : Tab := { sel := [], plan := [(5, (.take 0 (.take 1 (.take 2 (.take 3 (.take 4 (.take 5 (.alt 6 .done .stop))))))))], join := [] }

theorem F142_eq (t0 : Value) (t1 : Value) (w : World) (K : Value → World → Prop) : enterV Tryz.prog tab142 Tryz.f142 [t0, t1] w K = F142 t0 t1 w K := by kernel_rfl

theorem F142_ok {t0 : Value} {t1 : Value} {w : World} {K : Value → World → Prop} (h : F142 t0 t1 w K) : Ret Tryz.prog 142 #[t0, t1] w K :=
  enter_sound (T := tab142) (args := [t0, t1]) Tryz.func142 Tryz.call142 mixed (by kernel_rfl) (by rw [F142_eq]; exact h)

def F215 (t0 : Value) (w : World) (K : Value → World → Prop) : Prop :=
  vBin (.int .i64) .geq t0 (.int .i64 1) fun v4 =>
  vBool v4 fun g => if g = true then
  (vBin (.int .i64) .leq t0 (.int .i64 2305843009213693951) fun v7 =>
  K v7 w)
  else
  (K (.bool false) w)

def tab215 : Tab := { sel := [], plan := [], join := [] }

theorem F215_eq (t0 : Value) (w : World) (K : Value → World → Prop) : enterV Tryz.prog tab215 Tryz.f215 [t0] w K = F215 t0 w K := by kernel_rfl

theorem F215_ok {t0 : Value} {w : World} {K : Value → World → Prop} (h : F215 t0 w K) : Ret Tryz.prog 215 #[t0] w K :=
  enter_sound (T := tab215) (args := [t0]) Tryz.func215 Tryz.call215 mixed (by kernel_rfl) (by rw [F215_eq]; exact h)

def F224 (t0 : Value) (t1 : Value) (w : World) (K : Value → World → Prop) : Prop :=
  vNilP Tryz.prog t0 fun v6 =>
  vFA (some 0) v6 fun v7 =>
  vLd .one v7 w fun v8 =>
  vBuildSlice Tryz.prog 42 1 [(0, t1)] w fun v10 w =>
  vAppend Tryz.prog 42 42 v8 v10 w fun v11 w_2 =>
  vNilP Tryz.prog t0 fun v12 =>
  vFA (some 0) v12 fun v13 =>
  vSt (some 1) v13 v11 w_2 fun w_3 =>
  K (.tuple #[]) w_3

def tab224 : Tab := { sel := [], plan := [], join := [] }

theorem F224_eq (t0 : Value) (t1 : Value) (w : World) (K : Value → World → Prop) : enterV Tryz.prog tab224 Tryz.f224 [t0, t1] w K = F224 t0 t1 w K := by kernel_rfl

theorem F224_ok {t0 : Value} {t1 : Value} {w : World} {K : Value → World → Prop} (h : F224 t0 t1 w K) : Ret Tryz.prog 224 #[t0, t1] w K :=
  enter_sound (T := tab224) (args := [t0, t1]) Tryz.func224 Tryz.call224 mixed (by kernel_rfl) (by rw [F224_eq]; exact h)

def F225 (t0 : Value) (w : World) (K : Value → World → Prop) : Prop :=
  vNilP Tryz.prog t0 fun v5 =>
  vFA (some 0) v5 fun v6 =>
  vLd .one v6 w fun v7 =>
  vLen (.slice 1) v7 fun v8 =>
  vBin (.int .i64) .eql v8 (.int .i64 0) fun v9 =>
  vBool v9 fun c => if c = true then
   (K (.tuple #[(.int .i64 0), (.bool false)]) w)
  else
  vNilP Tryz.prog t0 fun v12 =>
  vFA (some 0) v12 fun v13 =>
  vLd .one v13 w fun v14 =>
  vIA (.slice 1) v14 (.int .i64 0) fun v15 =>
  vLd .one v15 w fun v16 =>
  vNilP Tryz.prog t0 fun v19 =>
  vFA (some 0) v19 fun v20 =>
  vLd .one v20 w fun v21 =>
  vSlice (.slice 1) v21 (some (.int .i64 1)) none fun v22 =>
  vNilP Tryz.prog t0 fun v23 =>
  vFA (some 0) v23 fun v24 =>
  vSt (some 1) v24 v22 w fun w =>
  K (.tuple #[v16, (.bool true)]) w

def tab225 : Tab := { sel := [], plan := [], join := [] }

theorem F225_eq (t0 : Value) (w : World) (K : Value → World → Prop) : enterV Tryz.prog tab225 Tryz.f225 [t0] w K = F225 t0 w K := by kernel_rfl

theorem F225_ok {t0 : Value} {w : World} {K : Value → World → Prop} (h : F225 t0 w K) : Ret Tryz.prog 225 #[t0] w K :=
  enter_sound (T := tab225) (args := [t0]) Tryz.func225 Tryz.call225 mixed (by kernel_rfl) (by rw [F225_eq]; exact h)

end Go.Proofs.YtdkklhnleppfcaaGreat
