import Derived.Test.YtnmmpgeojimgoaaDoorVe
import Derived.Test.YtnmmpgeojimgoaaDoorFs1
set_option linter.unusedVariables false
namespace Go.Proofs.YtnmmpgeojimgoaaDoor
open Go Go.V
set_option maxRecDepth 100000
set_option maxRecDepth 100000

def F18J9 (J2 : List Value → List Nat → World → Prop) (ρ : Env) (ds : List Nat) (w : World) : Prop :=
  vBool (ρ 42) fun c_4 => if c_4 = true then
   (J2 [(ρ 0), (ρ 2), (ρ 5), (ρ 6), (ρ 8), (.int .i64 1)] ds w)
  else
  vBin (.int .i64) .eql (ρ 41) (.int .i64 2) fun v46 =>
  vBool v46 fun c_5 => if c_5 = true then
   (vBool v46 fun c_6 => if c_6 = true then
   (J2 [(ρ 0), (ρ 2), (ρ 5), (ρ 6), (ρ 8), (.int .i64 2)] ds w)
  else
  vBin (.int .i64) .eql (ρ 41) (.int .i64 3) fun v49 =>
  vBool v49 fun c_7 => if c_7 = true then
   (J2 [(ρ 0), (ρ 2), (ρ 5), (ρ 6), (ρ 8), (.int .i64 3)] ds w)
  else
  J2 [(ρ 0), (ρ 2), (ρ 5), (ρ 6), (ρ 8), (ρ 9)] ds w)
  else
  vBin (.int .i64) .eql (ρ 41) (.int .i64 4) fun v47 =>
  vBool v47 fun c_8 => if c_8 = true then
   (J2 [(ρ 0), (ρ 2), (ρ 5), (ρ 6), (ρ 8), (.int .i64 2)] ds w)
  else
  vBin (.int .i64) .eql (ρ 41) (.int .i64 3) fun v49_2 =>
  vBool v49_2 fun c_9 => if c_9 = true then
   (J2 [(ρ 0), (ρ 2), (ρ 5), (ρ 6), (ρ 8), (.int .i64 3)] ds w)
  else
  J2 [(ρ 0), (ρ 2), (ρ 5), (ρ 6), (ρ 8), (ρ 9)] ds w

def F18J6 (K : Value → World → Prop) (ρ : Env) (ds : List Nat) (w : World) : Prop :=
  vLd (.agg 5) (ρ 6) w fun v139 =>
  CallK Tryd.prog 11 #[v139] w fun v140 w_15 =>
  vUn .not v140 fun v141 =>
  vBool v141 fun c_10 => if c_10 = true then
   (vBuild Tryd.prog 23 [] fun v142 =>
   vSt (some 5) (ρ 2) v142 w_15 fun w_16 =>
   leaveV ds w_16 fun W => vLd (.agg 5) (ρ 2) W fun r_4 => K (.tuple #[r_4, (.string ⟨#[]⟩), (.bool false)]) W)
  else
  vBin .string .neq (ρ 15) (.string ⟨#[]⟩) fun v144 =>
  vBool v144 fun c_11 => if c_11 = true then
   (vLd (.agg 5) (ρ 6) w_15 fun v145 =>
   CallK Tryd.prog 16 #[v145] w_15 fun v146 w_17 =>
   drawF w_17 fun S_2 =>
   vLdS S_2 (.agg 5) (ρ 6) fun v147 =>
   vLen .string v146 fun v150 =>
   vBin (.int .i64) .gtr v150 (.int .i64 0) fun v151 =>
   vBool v151 fun g_4 => if g_4 = true then
   (vLen .string v146 fun v155 =>
   vBin (.int .i64) .sub v155 (.int .i64 1) fun v156 =>
   vSlice .string v146 none (some v156) fun v157 =>
   vBin .string .add v157 (ρ 15) fun v159 =>
   vBin .string .eql v159 (ρ 0) fun v161 =>
   (vSt (some 5) (ρ 2) v147 w_17.drew fun w_18 =>
   (leaveV ds w_18 fun W => vLd (.agg 5) (ρ 2) W fun r_5 => K (.tuple #[r_5, (ρ 15), v161]) W)) ∧
   (True))
   else
   ((vSt (some 5) (ρ 2) v147 w_17.drew fun w_19 =>
   (leaveV ds w_19 fun W => vLd (.agg 5) (ρ 2) W fun r_6 => K (.tuple #[r_6, (ρ 15), (.bool false)]) W)) ∧
   (True)))
  else
  drawF2 w_15 fun S_3 T =>
  vLdS S_3 (.agg 5) (ρ 6) fun v163 =>
  vLdS (fun w => S_3 w ∨ T w) (.agg 5) (ρ 6) fun v164 =>
  (CallK Tryd.prog 16 #[v164] w_15.drew fun v165 w_20 =>
  S_3 w_20 ∧ (vBin .string .eql v165 (ρ 0) fun v167 =>
  (vSt (some 5) (ρ 2) v163 w_20 fun w_21 =>
  T w_21 ∧ (leaveV ds w_21 fun W => vLd (.agg 5) (ρ 2) W fun r_7 => K (.tuple #[r_7, (.string ⟨#[]⟩), v167]) W)) ∧
  (True))) ∧
  (True)

def F18L2 (K : Value → World → Prop) (ρ : Env) (ds : List Nat) (w : World) (ag2 : List Value → List Nat → World → Prop) : Prop :=
  vBin (.int .i64) .lss (ρ 12) (ρ 9) fun v76 =>
  vBool v76 fun c_5 => if c_5 = true then
   (vBin (.int .i64) .add (.int .i64 1) (ρ 12) fun v82 =>
  vIA (.slice 1) (ρ 5) v82 fun v83 =>
  vLd .one v83 w fun v84 =>
  CallK Tryd.prog 37 #[v84] w fun v85 w_10 =>
  vExt v85 0 fun v86 =>
  vExt v85 1 fun v87 =>
  vUn .not v87 fun v89 =>
  vBool v89 fun c_6 => if c_6 = true then
   (vBuild Tryd.prog 23 [] fun v90 =>
   vSt (some 5) (ρ 2) v90 w_10 fun w_11 =>
   leaveV ds w_11 fun W => vLd (.agg 5) (ρ 2) W fun r_3 => K (.tuple #[r_3, (.string ⟨#[]⟩), (.bool false)]) W)
  else
  vBin (.int .i64) .eql (ρ 12) (.int .i64 0) fun v93 =>
  vBool v93 fun c_7 => if c_7 = true then
   (vFA (some 1) (ρ 6) fun v95 =>
   vSt (some 1) v95 v86 w_10 fun w_12 =>
   vBin (.int .i64) .add (ρ 12) (.int .i64 1) fun v78 =>
  ag2 [(ρ 0), (ρ 2), (ρ 5), (ρ 6), (ρ 8), (ρ 9), (ρ 10), (ρ 11), v78] ds w_12)
  else
  vBin (.int .i64) .eql (ρ 12) (.int .i64 1) fun v97 =>
  vBool v97 fun c_8 => if c_8 = true then
   (vFA (some 2) (ρ 6) fun v99 =>
   vSt (some 1) v99 v86 w_10 fun w_13 =>
   vBin (.int .i64) .add (ρ 12) (.int .i64 1) fun v78_2 =>
  ag2 [(ρ 0), (ρ 2), (ρ 5), (ρ 6), (ρ 8), (ρ 9), (ρ 10), (ρ 11), v78_2] ds w_13)
  else
  vBin (.int .i64) .eql (ρ 12) (.int .i64 2) fun v101 =>
  vBool v101 fun c_9 => if c_9 = true then
   (vFA (some 3) (ρ 6) fun v103 =>
   vSt (some 1) v103 v86 w_10 fun w_14 =>
   vBin (.int .i64) .add (ρ 12) (.int .i64 1) fun v78_3 =>
  ag2 [(ρ 0), (ρ 2), (ρ 5), (ρ 6), (ρ 8), (ρ 9), (ρ 10), (ρ 11), v78_3] ds w_14)
  else
  vBin (.int .i64) .add (ρ 12) (.int .i64 1) fun v78_4 =>
  ag2 [(ρ 0), (ρ 2), (ρ 5), (ρ 6), (ρ 8), (ρ 9), (ρ 10), (ρ 11), v78_4] ds w_10)
  else
  joinF [0, 2, 6, 15] (fun J6 =>
  vBool (ρ 10) fun c_10 => if c_10 = true then
   (vBin (.int .i64) .sub (ρ 11) (.int .i64 1) fun v108 =>
   vIA (.slice 1) (ρ 5) v108 fun v109 =>
   vLd .one v109 w fun v110 =>
   CallK Tryd.prog 38 #[v110] w fun v111 w_15 =>
   vExt v111 0 fun v112 =>
   vExt v111 1 fun v113 =>
   vFA (some 4) (ρ 6) fun v115 =>
   vSt (some 1) v115 v112 w_15 fun w_16 =>
   vUn .not v113 fun v117 =>
   vBool v117 fun c_11 => if c_11 = true then
    (vBin (.int .i64) .neq (ρ 8) (.int .i64 5) fun v119 =>
    vBool v119 fun g_4 => if g_4 = true then
    (vBin (.int .i64) .neq (ρ 8) (.int .i64 6) fun v122 =>
    vBool v122 fun g_5 => if g_5 = true then
    (vBuild Tryd.prog 23 [] fun v133 =>
    vSt (some 5) (ρ 2) v133 w_16 fun w_17 =>
    leaveV ds w_17 fun W => vLd (.agg 5) (ρ 2) W fun r_4 => K (.tuple #[r_4, (.string ⟨#[]⟩), (.bool false)]) W)
    else
    (vBin (.int .i64) .sub (ρ 11) (.int .i64 1) fun v127 =>
    vIA (.slice 1) (ρ 5) v127 fun v128 =>
    vLd .one v128 w_16 fun v129 =>
    CallK Tryd.prog 39 #[v129] w_16 fun v130 w_18 =>
    vUn .not v130 fun v131 =>
    vBool v131 fun c_12 => if c_12 = true then
     (vBuild Tryd.prog 23 [] fun v133_2 =>
     vSt (some 5) (ρ 2) v133_2 w_18 fun w_19 =>
     leaveV ds w_19 fun W => vLd (.agg 5) (ρ 2) W fun r_5 => K (.tuple #[r_5, (.string ⟨#[]⟩), (.bool false)]) W)
    else
    vBin (.int .i64) .sub (ρ 11) (.int .i64 1) fun v136 =>
    vIA (.slice 1) (ρ 5) v136 fun v137 =>
    vLd .one v137 w_18 fun v138 =>
    J6 [(ρ 0), (ρ 2), (ρ 6), v138] ds w_18))
    else
    (vBin (.int .i64) .sub (ρ 11) (.int .i64 1) fun v127_2 =>
    vIA (.slice 1) (ρ 5) v127_2 fun v128_2 =>
    vLd .one v128_2 w_16 fun v129_2 =>
    CallK Tryd.prog 39 #[v129_2] w_16 fun v130_2 w_20 =>
    vUn .not v130_2 fun v131_2 =>
    vBool v131_2 fun c_13 => if c_13 = true then
     (vBuild Tryd.prog 23 [] fun v133_3 =>
     vSt (some 5) (ρ 2) v133_3 w_20 fun w_21 =>
     leaveV ds w_21 fun W => vLd (.agg 5) (ρ 2) W fun r_6 => K (.tuple #[r_6, (.string ⟨#[]⟩), (.bool false)]) W)
    else
    vBin (.int .i64) .sub (ρ 11) (.int .i64 1) fun v136_2 =>
    vIA (.slice 1) (ρ 5) v136_2 fun v137_2 =>
    vLd .one v137_2 w_20 fun v138_2 =>
    J6 [(ρ 0), (ρ 2), (ρ 6), v138_2] ds w_20))
   else
   J6 [(ρ 0), (ρ 2), (ρ 6), (.string ⟨#[]⟩)] ds w_16)
  else
  J6 [(ρ 0), (ρ 2), (ρ 6), (.string ⟨#[]⟩)] ds w)
  (F18J6 K)

def F18J4 (K : Value → World → Prop) (ρ : Env) (ds : List Nat) (w : World) : Prop :=
  vLen (.slice 1) (ρ 5) fun v70 =>
  vBin (.int .i64) .neq v70 (ρ 11) fun v72 =>
  vBool v72 fun c_4 => if c_4 = true then
   (vBuild Tryd.prog 23 [] fun v73 =>
   vSt (some 5) (ρ 2) v73 w fun w_9 =>
   leaveV ds w_9 fun W => vLd (.agg 5) (ρ 2) W fun r_2 => K (.tuple #[r_2, (.string ⟨#[]⟩), (.bool false)]) W)
  else
  loopF [0, 2, 5, 6, 8, 9, 10, 11, 12] [(ρ 0), (ρ 2), (ρ 5), (ρ 6), (ρ 8), (ρ 9), (ρ 10), (ρ 11), (.int .i64 0)] ds w (F18L2 K)

def F18J2 (K : Value → World → Prop) (ρ : Env) (ds : List Nat) (w : World) : Prop :=
  vBin (.int .i64) .eql (ρ 8) (.int .i64 1) fun v51 =>
  vBool v51 fun g => if g = true then
  (vBin (.int .i64) .add (.int .i64 1) (ρ 9) fun v65 =>
  joinF [0, 2, 5, 6, 8, 9, 10, 11] (fun J4 =>
  vBin (.int .i64) .add v65 (.int .i64 1) fun v68 =>
  J4 [(ρ 0), (ρ 2), (ρ 5), (ρ 6), (ρ 8), (ρ 9), (.bool true), v68] ds w)
  (F18J4 K))
  else
  (vBin (.int .i64) .eql (ρ 8) (.int .i64 4) fun v54 =>
  vBool v54 fun g_2 => if g_2 = true then
  (vBin (.int .i64) .add (.int .i64 1) (ρ 9) fun v65_2 =>
  joinF [0, 2, 5, 6, 8, 9, 10, 11] (fun J4 =>
  vBin (.int .i64) .add v65_2 (.int .i64 1) fun v68_2 =>
  J4 [(ρ 0), (ρ 2), (ρ 5), (ρ 6), (ρ 8), (ρ 9), (.bool true), v68_2] ds w)
  (F18J4 K))
  else
  (vBin (.int .i64) .eql (ρ 8) (.int .i64 5) fun v58 =>
  vBool v58 fun g_3 => if g_3 = true then
  (vBin (.int .i64) .add (.int .i64 1) (ρ 9) fun v65_3 =>
  joinF [0, 2, 5, 6, 8, 9, 10, 11] (fun J4 =>
  vBin (.int .i64) .add v65_3 (.int .i64 1) fun v68_3 =>
  J4 [(ρ 0), (ρ 2), (ρ 5), (ρ 6), (ρ 8), (ρ 9), (.bool true), v68_3] ds w)
  (F18J4 K))
  else
  (vBin (.int .i64) .eql (ρ 8) (.int .i64 6) fun v62 =>
  vBin (.int .i64) .add (.int .i64 1) (ρ 9) fun v65_4 =>
  joinF [0, 2, 5, 6, 8, 9, 10, 11] (fun J4 =>
  vBool v62 fun c_4 => if c_4 = true then
   (vBin (.int .i64) .add v65_4 (.int .i64 1) fun v68_4 =>
   J4 [(ρ 0), (ρ 2), (ρ 5), (ρ 6), (ρ 8), (ρ 9), v62, v68_4] ds w)
  else
  J4 [(ρ 0), (ρ 2), (ρ 5), (ρ 6), (ρ 8), (ρ 9), v62, v65_4] ds w)
  (F18J4 K))))

def F18L1 (K : Value → World → Prop) (ρ : Env) (ds : List Nat) (w : World) (ag1 : List Value → List Nat → World → Prop) : Prop :=
  vBin (.int .i64) .leq (ρ 7) (.int .i64 26) fun v23 =>
  vBool v23 fun c => if c = true then
   (drawF w fun S =>
  vIA (.slice 1) (ρ 5) (.int .i64 0) fun v29 =>
  vLdS S .one v29 fun v30 =>
  (CallK Tryd.prog 24 #[(ρ 7)] w.drew fun v27 w_5 =>
  S w_5 ∧ (vBin .string .eql v27 v30 fun v31 =>
  vBool v31 fun c_2 => if c_2 = true then
   (vFA (some 0) (ρ 6) fun v33 =>
   vSt (some 1) v33 (ρ 7) w_5 fun w_6 =>
   vBin (.int .i64) .add (ρ 7) (.int .i64 1) fun v25 =>
  ag1 [(ρ 0), (ρ 2), (ρ 5), (ρ 6), v25] ds w_6)
  else
  vBin (.int .i64) .add (ρ 7) (.int .i64 1) fun v25_2 =>
  ag1 [(ρ 0), (ρ 2), (ρ 5), (ρ 6), v25_2] ds w_5)) ∧
  (True))
  else
  vFA (some 0) (ρ 6) fun v34 =>
  vLd .one v34 w fun v35 =>
  vBin (.int .i64) .lss v35 (.int .i64 0) fun v36 =>
  vBool v36 fun c_3 => if c_3 = true then
   (vBuild Tryd.prog 23 [] fun v37 =>
   vSt (some 5) (ρ 2) v37 w fun w_7 =>
   leaveV ds w_7 fun W => vLd (.agg 5) (ρ 2) W fun r => K (.tuple #[r, (.string ⟨#[]⟩), (.bool false)]) W)
  else
  vFA (some 0) (ρ 6) fun v38 =>
  vLd .one v38 w fun v39 =>
  CallK Tryd.prog 25 #[v39] w fun v40 w_8 =>
  joinF [0, 2, 5, 6, 8, 9] (fun J2 =>
  joinF [0, 2, 5, 6, 8, 9, 41, 42] (fun J9 =>
  vBin (.int .i64) .eql v40 (.int .i64 1) fun v43 =>
  vBool v43 fun c_4 => if c_4 = true then
   (J9 [(ρ 0), (ρ 2), (ρ 5), (ρ 6), v40, (.int .i64 0), v40, v43] ds w_8)
  else
  vBin (.int .i64) .eql v40 (.int .i64 6) fun v44 =>
  J9 [(ρ 0), (ρ 2), (ρ 5), (ρ 6), v40, (.int .i64 0), v40, v44] ds w_8)
  (F18J9 J2))
  (F18J2 K)

/-- gatehouse/gatehouseref02.Parse -/
def F18 (t0 : Value) (w : World) (K : Value → World → Prop) : Prop :=
  vAlloc Tryd.prog 23 w fun v2 w =>
  CallK Tryd.prog 36 #[t0, (.int .u8 32)] w fun v20 w_2 =>
  vBuild Tryd.prog 23 [(0, (.int .i64 (-1)))] fun v21 =>
  vAlloc Tryd.prog 23 w_2 fun v6 w_3 =>
  vSt (some 5) v6 v21 w_3 fun w_4 =>
  loopF [0, 2, 5, 6, 7] [t0, v2, v20, v6, (.int .i64 0)] [] w_4 (F18L1 K)

def tab18 : Tab := { sel := [(28, [0, 2, 5, 6, 8, 9, 10, 11, 12]), (4, [0, 2, 5, 6, 7])], plan := [(6, (.take 0 (.take 2 (.take 3 (.take 4 (.alt 1 (.take 5 .done) .stop)))))), (52, (.take 0 (.take 1 (.take 2 (.take 3 (.take 4 (.take 5 (.take 6 (.take 7 (.take 8 (.take 9 (.take 10 (.take 11 (.take 12 (.take 13 (.take 14 (.take 15 (.alt 16 (.take 17 (.take 18 .done)) .stop)))))))))))))))))), (53, (.take 0 (.take 1 (.take 3 (.alt 2 (.take 4 (.alt 5 (.take 6 (.take 7 .done)) .stop)) .stop)))))], join := [(48, [0, 2, 6, 15]), (25, [0, 2, 5, 6, 8, 9, 10, 11]), (21, [0, 2, 5, 6, 8, 9]), (15, [0, 2, 5, 6, 8, 9, 41, 42])] }

theorem F18_eq (t0 : Value) (w : World) (K : Value → World → Prop) : enterV Tryd.prog tab18 Tryd.f18 [t0] w K = F18 t0 w K := by kernel_rfl

theorem F18_ok {t0 : Value} {w : World} {K : Value → World → Prop} (h : F18 t0 w K) : Ret Tryd.prog 18 #[t0] w K :=
  enter_sound (T := tab18) (args := [t0]) Tryd.func18 Tryd.call18 mixed (by kernel_rfl) (by rw [F18_eq]; exact h)

end Go.Proofs.YtnmmpgeojimgoaaDoor
