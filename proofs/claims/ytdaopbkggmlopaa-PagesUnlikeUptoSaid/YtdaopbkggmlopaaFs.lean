import Derived.Test.YtdaopbkggmlopaaVe
import Derived.Test.YtdaopbkggmlopaaProg
set_option linter.unusedVariables false
namespace Go.Proofs.Ytdaopbkggmlopaa
open Go Go.V
theorem mixed : Try.prog.follows .mixedOrders = true := by kernel_rfl

def F3J3 (K : Value → World → Prop) (ρ : Env) (ds : List Nat) (w : World) : Prop :=
  drawF w fun S =>
  vBin (.int .i64) .eql (ρ 12) (.int .i64 0) fun v102 =>
  vBool v102 fun g => if g = true then
  (vSlice .string (ρ 13) none (some (ρ 1)) fun v106 =>
  vSlice .string (ρ 11) none (some (ρ 1)) fun v109 =>
  vBin .string .eql v106 v109 fun v110 =>
  vBool v102 fun b =>
  vBool (bif b then v110 else (.bool false)) fun g_2 => if g_2 = true then
  (vLen .string (ρ 3) fun v117 =>
  vBin (.int .i64) .add (ρ 1) v117 fun v118 =>
  vSlice .string (ρ 13) (some (ρ 1)) (some v118) fun v119 =>
  vBin .string .eql v119 (ρ 3) fun v121 =>
  vBool (bif b then v110 else (.bool false)) fun b_2 =>
  vBool (bif b_2 then v121 else (.bool false)) fun g_3 => if g_3 = true then
  (vLen .string (ρ 3) fun v127 =>
  vBin (.int .i64) .add (ρ 1) v127 fun v128 =>
  vSlice .string (ρ 13) (some v128) none fun v129 =>
  vLen .string (ρ 3) fun v133 =>
  vBin (.int .i64) .add (ρ 1) v133 fun v134 =>
  vSlice .string (ρ 11) (some v134) none fun v135 =>
  vBin .string .eql v129 v135 fun v136 =>
  vBool (bif b_2 then v121 else (.bool false)) fun b_3 =>
  leaveV ds w.drew fun W => K (bif b_3 then v136 else (.bool false)) W)
  else
  (vBool (bif b_2 then v121 else (.bool false)) fun b_4 =>
  leaveV ds w.drew fun W => K (bif b_4 then undef else (.bool false)) W))
  else
  (vBool (bif b then v110 else (.bool false)) fun b_5 =>
  vBool (bif b_5 then undef else (.bool false)) fun g_4 => if g_4 = true then
  (vLen .string (ρ 3) fun v127_2 =>
  vBin (.int .i64) .add (ρ 1) v127_2 fun v128_2 =>
  vSlice .string (ρ 13) (some v128_2) none fun v129_2 =>
  vLen .string (ρ 3) fun v133_2 =>
  vBin (.int .i64) .add (ρ 1) v133_2 fun v134_2 =>
  vSlice .string (ρ 11) (some v134_2) none fun v135_2 =>
  vBin .string .eql v129_2 v135_2 fun v136_2 =>
  vBool (bif b_5 then undef else (.bool false)) fun b_6 =>
  leaveV ds w.drew fun W => K (bif b_6 then v136_2 else (.bool false)) W)
  else
  (vBool (bif b_5 then undef else (.bool false)) fun b_7 =>
  leaveV ds w.drew fun W => K (bif b_7 then undef else (.bool false)) W)))
  else
  (vBool v102 fun b_8 =>
  vBool (bif b_8 then undef else (.bool false)) fun g_5 => if g_5 = true then
  (vLen .string (ρ 3) fun v117_2 =>
  vBin (.int .i64) .add (ρ 1) v117_2 fun v118_2 =>
  vSlice .string (ρ 13) (some (ρ 1)) (some v118_2) fun v119_2 =>
  vBin .string .eql v119_2 (ρ 3) fun v121_2 =>
  vBool (bif b_8 then undef else (.bool false)) fun b_9 =>
  vBool (bif b_9 then v121_2 else (.bool false)) fun g_6 => if g_6 = true then
  (vLen .string (ρ 3) fun v127_3 =>
  vBin (.int .i64) .add (ρ 1) v127_3 fun v128_3 =>
  vSlice .string (ρ 13) (some v128_3) none fun v129_3 =>
  vLen .string (ρ 3) fun v133_3 =>
  vBin (.int .i64) .add (ρ 1) v133_3 fun v134_3 =>
  vSlice .string (ρ 11) (some v134_3) none fun v135_3 =>
  vBin .string .eql v129_3 v135_3 fun v136_3 =>
  vBool (bif b_9 then v121_2 else (.bool false)) fun b_10 =>
  leaveV ds w.drew fun W => K (bif b_10 then v136_3 else (.bool false)) W)
  else
  (vBool (bif b_9 then v121_2 else (.bool false)) fun b_11 =>
  leaveV ds w.drew fun W => K (bif b_11 then undef else (.bool false)) W))
  else
  (vBool (bif b_8 then undef else (.bool false)) fun b_12 =>
  vBool (bif b_12 then undef else (.bool false)) fun g_7 => if g_7 = true then
  (vLen .string (ρ 3) fun v127_4 =>
  vBin (.int .i64) .add (ρ 1) v127_4 fun v128_4 =>
  vSlice .string (ρ 13) (some v128_4) none fun v129_4 =>
  vLen .string (ρ 3) fun v133_4 =>
  vBin (.int .i64) .add (ρ 1) v133_4 fun v134_4 =>
  vSlice .string (ρ 11) (some v134_4) none fun v135_4 =>
  vBin .string .eql v129_4 v135_4 fun v136_4 =>
  vBool (bif b_12 then undef else (.bool false)) fun b_13 =>
  leaveV ds w.drew fun W => K (bif b_13 then v136_4 else (.bool false)) W)
  else
  (vBool (bif b_12 then undef else (.bool false)) fun b_14 =>
  leaveV ds w.drew fun W => K (bif b_14 then undef else (.bool false)) W)))

def F3J2 (K : Value → World → Prop) (ρ : Env) (ds : List Nat) (w : World) : Prop :=
  joinF [1, 3, 11, 12, 13] (fun J3 =>
  vBin (.int .i64) .lss (ρ 1) (.int .i64 0) fun v80 =>
  vBool v80 fun g => if g = true then
  (vBool v80 fun b =>
  vBool (bif b then (.bool true) else undef) fun g_2 => if g_2 = true then
  (vBool (bif b then (.bool true) else undef) fun b_2 =>
  vBool (bif b_2 then (.bool true) else undef) fun c_4 => if c_4 = true then
   (vBin (.int .i64) .eql (ρ 12) (.int .i64 9) fun v95 =>
   vBool v95 fun g_3 => if g_3 = true then
   (vBin .string .eql (ρ 13) (ρ 11) fun v99 =>
   vBool v95 fun b_3 =>
   leaveV ds w fun W => K (bif b_3 then v99 else (.bool false)) W)
   else
   (vBool v95 fun b_4 =>
   leaveV ds w fun W => K (bif b_4 then undef else (.bool false)) W))
  else
  J3 [(ρ 1), (ρ 3), (ρ 11), (ρ 12), (ρ 13)] ds w)
  else
  (vLen .string (ρ 3) fun v88 =>
  vBin (.int .i64) .sub (ρ 0) (ρ 1) fun v91 =>
  vBin (.int .i64) .gtr v88 v91 fun v92 =>
  vBool (bif b then (.bool true) else undef) fun b_5 =>
  vBool (bif b_5 then (.bool true) else v92) fun c_5 => if c_5 = true then
   (vBin (.int .i64) .eql (ρ 12) (.int .i64 9) fun v95_2 =>
   vBool v95_2 fun g_4 => if g_4 = true then
   (vBin .string .eql (ρ 13) (ρ 11) fun v99_2 =>
   vBool v95_2 fun b_6 =>
   leaveV ds w fun W => K (bif b_6 then v99_2 else (.bool false)) W)
   else
   (vBool v95_2 fun b_7 =>
   leaveV ds w fun W => K (bif b_7 then undef else (.bool false)) W))
  else
  J3 [(ρ 1), (ρ 3), (ρ 11), (ρ 12), (ρ 13)] ds w))
  else
  (vBin (.int .i64) .gtr (ρ 1) (ρ 0) fun v84 =>
  vBool v80 fun b_8 =>
  vBool (bif b_8 then (.bool true) else v84) fun g_5 => if g_5 = true then
  (vBool (bif b_8 then (.bool true) else v84) fun b_9 =>
  vBool (bif b_9 then (.bool true) else undef) fun c_6 => if c_6 = true then
   (vBin (.int .i64) .eql (ρ 12) (.int .i64 9) fun v95_3 =>
   vBool v95_3 fun g_6 => if g_6 = true then
   (vBin .string .eql (ρ 13) (ρ 11) fun v99_3 =>
   vBool v95_3 fun b_10 =>
   leaveV ds w fun W => K (bif b_10 then v99_3 else (.bool false)) W)
   else
   (vBool v95_3 fun b_11 =>
   leaveV ds w fun W => K (bif b_11 then undef else (.bool false)) W))
  else
  J3 [(ρ 1), (ρ 3), (ρ 11), (ρ 12), (ρ 13)] ds w)
  else
  (vLen .string (ρ 3) fun v88_2 =>
  vBin (.int .i64) .sub (ρ 0) (ρ 1) fun v91_2 =>
  vBin (.int .i64) .gtr v88_2 v91_2 fun v92_2 =>
  vBool (bif b_8 then (.bool true) else v84) fun b_12 =>
  vBool (bif b_12 then (.bool true) else v92_2) fun c_7 => if c_7 = true then
   (vBin (.int .i64) .eql (ρ 12) (.int .i64 9) fun v95_4 =>
   vBool v95_4 fun g_7 => if g_7 = true then
   (vBin .string .eql (ρ 13) (ρ 11) fun v99_4 =>
   vBool v95_4 fun b_13 =>
   leaveV ds w fun W => K (bif b_13 then v99_4 else (.bool false)) W)
   else
   (vBool v95_4 fun b_14 =>
   leaveV ds w fun W => K (bif b_14 then undef else (.bool false)) W))
  else
  J3 [(ρ 1), (ρ 3), (ρ 11), (ρ 12), (ρ 13)] ds w)))
  (F3J3 K)

def F3J1 (K : Value → World → Prop) (ρ : Env) (ds : List Nat) (w : World) : Prop :=
  vBuildSlice Try.prog 41 1 [(0, (ρ 3))] w fun v63 w_6 =>
  CallK Try.prog 10 #[(ρ 9), (ρ 1), v63] w_6 fun v64 w_7 =>
  CallK Try.prog 11 #[(ρ 9), (.int .i64 0), (ρ 0)] w_7 fun v68 w_8 =>
  vExt v68 0 fun v69 =>
  vExt v68 1 fun v70 =>
  joinF [0, 1, 3, 11, 12, 13] (fun J2 =>
  vBin (.int .i64) .neq v70 (.int .i64 0) fun v72 =>
  vBool v72 fun g => if g = true then
  (vBool v72 fun b =>
  vBool (bif b then (.bool true) else undef) fun c_4 => if c_4 = true then
   (leaveV ds w_8 fun W => K (.bool false) W)
  else
  J2 [(ρ 0), (ρ 1), (ρ 3), (ρ 11), v64, v69] ds w_8)
  else
  (vLen .string v69 fun v75 =>
  vBin (.int .i64) .neq v75 (ρ 0) fun v77 =>
  vBool v72 fun b_2 =>
  vBool (bif b_2 then (.bool true) else v77) fun c_5 => if c_5 = true then
   (leaveV ds w_8 fun W => K (.bool false) W)
  else
  J2 [(ρ 0), (ρ 1), (ρ 3), (ρ 11), v64, v69] ds w_8))
  (F3J2 K)

/-- gatehouse/gatehouselaw03.PagesWrites -/
def F3 (t0 : Value) (t1 : Value) (t2 : Value) (t3 : Value) (w : World) (K : Value → World → Prop) : Prop :=
  CallK Try.prog 8 #[] w fun v14 w =>
  vUn .not v14 fun v15 =>
  vBool v15 fun c => if c = true then
   (K (.bool false) w)
  else
  vConv (.int .u64) t0 fun v17 =>
  vBin (.int .u64) .rem v17 (.int .u64 4097) fun v18 =>
  vConv (.int .i64) v18 fun v19 =>
  CallK Try.prog 9 #[v19] w fun v22 w_2 =>
  vExt v22 0 fun v23 =>
  vExt v22 1 fun v24 =>
  vBin (.int .i64) .neq v24 (.int .i64 0) fun v26 =>
  vBool v26 fun c_2 => if c_2 = true then
   (K (.bool false) w_2)
  else
  vLen .string t2 fun v29 =>
  vMin v29 [v19] fun v31 =>
  vSlice .string t2 none (some v31) fun v32 =>
  vBuildSlice Try.prog 41 1 [(0, v32)] w_2 fun v35 w_3 =>
  CallK Try.prog 10 #[v23, (.int .i64 0), v35] w_3 fun v36 w_4 =>
  vBin (.int .i64) .neq v36 (.int .i64 0) fun v37 =>
  vBool v37 fun c_3 => if c_3 = true then
   (K (.bool false) w_4)
  else
  CallK Try.prog 11 #[v23, (.int .i64 0), v19] w_4 fun v41 w_5 =>
  vExt v41 0 fun v42 =>
  vExt v41 1 fun v43 =>
  joinF [0, 1, 3, 9, 11] (fun J1 =>
  vBin (.int .i64) .neq v43 (.int .i64 0) fun v45 =>
  vBool v45 fun g => if g = true then
  (vBool v45 fun b =>
  vBool (bif b then (.bool true) else undef) fun g_2 => if g_2 = true then
  (vBool (bif b then (.bool true) else undef) fun b_2 =>
  vBool (bif b_2 then (.bool true) else undef) fun c_4 => if c_4 = true then
   (K (.bool false) w_5)
  else
  J1 [v19, t1, t3, v23, v42] [] w_5)
  else
  (vLen .string v32 fun v55 =>
  vSlice .string v42 none (some v55) fun v56 =>
  vBin .string .neq v56 v32 fun v58 =>
  vBool (bif b then (.bool true) else undef) fun b_3 =>
  vBool (bif b_3 then (.bool true) else v58) fun c_5 => if c_5 = true then
   (K (.bool false) w_5)
  else
  J1 [v19, t1, t3, v23, v42] [] w_5))
  else
  (vLen .string v42 fun v48 =>
  vBin (.int .i64) .neq v48 v19 fun v50 =>
  vBool v45 fun b_4 =>
  vBool (bif b_4 then (.bool true) else v50) fun g_3 => if g_3 = true then
  (vBool (bif b_4 then (.bool true) else v50) fun b_5 =>
  vBool (bif b_5 then (.bool true) else undef) fun c_6 => if c_6 = true then
   (K (.bool false) w_5)
  else
  J1 [v19, t1, t3, v23, v42] [] w_5)
  else
  (vLen .string v32 fun v55_2 =>
  vSlice .string v42 none (some v55_2) fun v56_2 =>
  vBin .string .neq v56_2 v32 fun v58_2 =>
  vBool (bif b_4 then (.bool true) else v50) fun b_6 =>
  vBool (bif b_6 then (.bool true) else v58_2) fun c_7 => if c_7 = true then
   (K (.bool false) w_5)
  else
  J1 [v19, t1, t3, v23, v42] [] w_5)))
  (F3J1 K)

def tab3 : Tab := { sel := [], plan := [(19, (.take 0 (.take 1 (.take 2 (.take 3 (.take 4 (.take 5 (.take 6 (.take 7 (.take 8 (.take 9 (.take 10 (.take 11 (.take 12 (.take 13 (.take 14 (.take 15 (.take 16 (.take 17 (.take 18 (.take 19 (.take 20 (.take 21 (.take 22 (.take 23 (.take 24 (.take 25 (.take 26 (.take 27 (.take 28 (.take 29 (.take 30 (.take 31 (.take 32 (.take 33 (.take 34 (.take 35 (.take 36 (.take 37 .done)))))))))))))))))))))))))))))))))))))))], join := [(19, [1, 3, 11, 12, 13]), (17, [0, 1, 3, 11, 12, 13]), (13, [0, 1, 3, 9, 11])] }

theorem F3_eq (t0 : Value) (t1 : Value) (t2 : Value) (t3 : Value) (w : World) (K : Value → World → Prop) : enterV Try.prog tab3 Try.f3 [t0, t1, t2, t3] w K = F3 t0 t1 t2 t3 w K := by kernel_rfl

theorem F3_ok {t0 : Value} {t1 : Value} {t2 : Value} {t3 : Value} {w : World} {K : Value → World → Prop} (h : F3 t0 t1 t2 t3 w K) : Ret Try.prog 3 #[t0, t1, t2, t3] w K :=
  enter_sound (T := tab3) (args := [t0, t1, t2, t3]) Try.func3 Try.call3 mixed (by kernel_rfl) (by rw [F3_eq]; exact h)

def F4L2 (K : Value → World → Prop) (ag1 : List Value → List Nat → World → Prop) (ρ : Env) (ds : List Nat) (w : World) (ag2 : List Value → List Nat → World → Prop) : Prop :=
  vBin (.int .i64) .lss (ρ 14) (ρ 8) fun v108 =>
  vBool v108 fun c_15 => if c_15 = true then
   (vIx .string .bad (ρ 12) (ρ 14) fun v113 =>
  vBin (.int .u8) .neq v113 (.int .u8 0) fun v114 =>
  vBool v114 fun c_16 => if c_16 = true then
   (leaveV ds w fun W => K (.bool false) W)
  else
  vBin (.int .i64) .add (ρ 14) (.int .i64 1) fun v110 =>
  ag2 [(ρ 0), (ρ 5), (ρ 7), (ρ 8), (ρ 12), v110, (ρ 41), (ρ 42), (ρ 43)] ds w)
  else
  vBin (.int .i64) .add (ρ 43) (.int .i64 1) fun v115 =>
  ag1 [(ρ 0), (ρ 5), (ρ 7), (ρ 8), (ρ 41), (ρ 42), v115] ds w

def F4J6 (K : Value → World → Prop) (ag1 : List Value → List Nat → World → Prop) (ρ : Env) (ds : List Nat) (w : World) : Prop :=
  loopF [0, 5, 7, 8, 12, 14, 41, 42, 43] [(ρ 0), (ρ 5), (ρ 7), (ρ 8), (ρ 12), (ρ 7), (ρ 41), (ρ 42), (ρ 43)] ds w (F4L2 K ag1)

def F4J5 (K : Value → World → Prop) (ag1 : List Value → List Nat → World → Prop) (ρ : Env) (ds : List Nat) (w : World) : Prop :=
  CallK Try.prog 11 #[(ρ 5), (.int .i64 0), (ρ 8)] w fun v79 w_4 =>
  vExt v79 0 fun v80 =>
  vExt v79 1 fun v81 =>
  joinF [0, 5, 7, 8, 12, 41, 42, 43] (fun J6 =>
  drawF w_4 fun S =>
  vBin (.int .i64) .neq v81 (.int .i64 0) fun v83 =>
  vBool v83 fun g_6 => if g_6 = true then
  (vBool v83 fun b_13 =>
  vBool (bif b_13 then (.bool true) else undef) fun g_7 => if g_7 = true then
  (vBool (bif b_13 then (.bool true) else undef) fun b_14 =>
  vBool (bif b_14 then (.bool true) else undef) fun g_8 => if g_8 = true then
  ((vBool (bif b_14 then (.bool true) else undef) fun b_15 =>
  vBool (bif b_15 then (.bool true) else undef) fun c_15 => if c_15 = true then
   (leaveV ds w_4.drew fun W => K (.bool false) W)
  else
  J6 [(ρ 0), (ρ 5), (ρ 7), (ρ 8), v80, (ρ 41), (ρ 42), (ρ 43)] ds w_4.drew) ∧
  (True))
  else
  ((CallK Try.prog 13 #[(ρ 5)] w_4.drew fun v101 w_5 =>
  S w_5 ∧ (vBin (.int .i64) .neq v101 (ρ 8) fun v103 =>
  vBool (bif b_14 then (.bool true) else undef) fun b_16 =>
  vBool (bif b_16 then (.bool true) else v103) fun c_16 => if c_16 = true then
   (leaveV ds w_5 fun W => K (.bool false) W)
  else
  J6 [(ρ 0), (ρ 5), (ρ 7), (ρ 8), v80, (ρ 41), (ρ 42), (ρ 43)] ds w_5)) ∧
  (True)))
  else
  (vSlice .string v80 none (some (ρ 7)) fun v93 =>
  vSlice .string (ρ 0) none (some (ρ 7)) fun v96 =>
  vBin .string .neq v93 v96 fun v97 =>
  vBool (bif b_13 then (.bool true) else undef) fun b_17 =>
  vBool (bif b_17 then (.bool true) else v97) fun g_9 => if g_9 = true then
  ((vBool (bif b_17 then (.bool true) else v97) fun b_18 =>
  vBool (bif b_18 then (.bool true) else undef) fun c_17 => if c_17 = true then
   (leaveV ds w_4.drew fun W => K (.bool false) W)
  else
  J6 [(ρ 0), (ρ 5), (ρ 7), (ρ 8), v80, (ρ 41), (ρ 42), (ρ 43)] ds w_4.drew) ∧
  (True))
  else
  ((CallK Try.prog 13 #[(ρ 5)] w_4.drew fun v101_2 w_6 =>
  S w_6 ∧ (vBin (.int .i64) .neq v101_2 (ρ 8) fun v103_2 =>
  vBool (bif b_17 then (.bool true) else v97) fun b_19 =>
  vBool (bif b_19 then (.bool true) else v103_2) fun c_18 => if c_18 = true then
   (leaveV ds w_6 fun W => K (.bool false) W)
  else
  J6 [(ρ 0), (ρ 5), (ρ 7), (ρ 8), v80, (ρ 41), (ρ 42), (ρ 43)] ds w_6)) ∧
  (True))))
  else
  (vLen .string v80 fun v86 =>
  vBin (.int .i64) .neq v86 (ρ 8) fun v88 =>
  vBool v83 fun b_20 =>
  vBool (bif b_20 then (.bool true) else v88) fun g_10 => if g_10 = true then
  (vBool (bif b_20 then (.bool true) else v88) fun b_21 =>
  vBool (bif b_21 then (.bool true) else undef) fun g_11 => if g_11 = true then
  ((vBool (bif b_21 then (.bool true) else undef) fun b_22 =>
  vBool (bif b_22 then (.bool true) else undef) fun c_19 => if c_19 = true then
   (leaveV ds w_4.drew fun W => K (.bool false) W)
  else
  J6 [(ρ 0), (ρ 5), (ρ 7), (ρ 8), v80, (ρ 41), (ρ 42), (ρ 43)] ds w_4.drew) ∧
  (True))
  else
  ((CallK Try.prog 13 #[(ρ 5)] w_4.drew fun v101_3 w_7 =>
  S w_7 ∧ (vBin (.int .i64) .neq v101_3 (ρ 8) fun v103_3 =>
  vBool (bif b_21 then (.bool true) else undef) fun b_23 =>
  vBool (bif b_23 then (.bool true) else v103_3) fun c_20 => if c_20 = true then
   (leaveV ds w_7 fun W => K (.bool false) W)
  else
  J6 [(ρ 0), (ρ 5), (ρ 7), (ρ 8), v80, (ρ 41), (ρ 42), (ρ 43)] ds w_7)) ∧
  (True)))
  else
  (vSlice .string v80 none (some (ρ 7)) fun v93_2 =>
  vSlice .string (ρ 0) none (some (ρ 7)) fun v96_2 =>
  vBin .string .neq v93_2 v96_2 fun v97_2 =>
  vBool (bif b_20 then (.bool true) else v88) fun b_24 =>
  vBool (bif b_24 then (.bool true) else v97_2) fun g_12 => if g_12 = true then
  ((vBool (bif b_24 then (.bool true) else v97_2) fun b_25 =>
  vBool (bif b_25 then (.bool true) else undef) fun c_21 => if c_21 = true then
   (leaveV ds w_4.drew fun W => K (.bool false) W)
  else
  J6 [(ρ 0), (ρ 5), (ρ 7), (ρ 8), v80, (ρ 41), (ρ 42), (ρ 43)] ds w_4.drew) ∧
  (True))
  else
  ((CallK Try.prog 13 #[(ρ 5)] w_4.drew fun v101_4 w_8 =>
  S w_8 ∧ (vBin (.int .i64) .neq v101_4 (ρ 8) fun v103_4 =>
  vBool (bif b_24 then (.bool true) else v97_2) fun b_26 =>
  vBool (bif b_26 then (.bool true) else v103_4) fun c_22 => if c_22 = true then
   (leaveV ds w_8 fun W => K (.bool false) W)
  else
  J6 [(ρ 0), (ρ 5), (ρ 7), (ρ 8), v80, (ρ 41), (ρ 42), (ρ 43)] ds w_8)) ∧
  (True)))))
  (F4J6 K ag1)

def F4L1 (K : Value → World → Prop) (ρ : Env) (ds : List Nat) (w : World) (ag1 : List Value → List Nat → World → Prop) : Prop :=
  vBin (.int .i64) .lss (ρ 43) (ρ 42) fun v44 =>
  vBool v44 fun c_2 => if c_2 = true then
   (vIA (.slice 1) (ρ 41) (ρ 43) fun v46 =>
  vLd .one v46 w fun v47 =>
  vBin (.int .i64) .geq (ρ 43) (.int .i64 20) fun v49 =>
  vBool v49 fun c_3 => if c_3 = true then
   (leaveV ds w fun W => K (.bool true) W)
  else
  CallK Try.prog 12 #[(ρ 5), v47] w fun v52 w_3 =>
  vBin (.int .i64) .eql v52 (.int .i64 0) fun v54 =>
  vBin (.int .i64) .geq v47 (.int .i64 0) fun v56 =>
  vBool v56 fun g => if g = true then
  (vBin (.int .i64) .leq v47 (.int .i64 4096) fun v59 =>
  vBool v56 fun b =>
  vBin .bool .neq v54 (bif b then v59 else (.bool false)) fun v61 =>
  vBool v61 fun g_2 => if g_2 = true then
  (vBool v61 fun b_2 =>
  vBool (bif b_2 then (.bool true) else undef) fun c_4 => if c_4 = true then
   (leaveV ds w_3 fun W => K (.bool false) W)
  else
  joinF [0, 5, 7, 8, 41, 42, 43] (fun J5 =>
  vBin (.int .i64) .eql v52 (.int .i64 0) fun v71 =>
  vBool v71 fun c_5 => if c_5 = true then
   (vMin (ρ 7) [v47] fun v74 =>
   J5 [(ρ 0), (ρ 5), v74, v47, (ρ 41), (ρ 42), (ρ 43)] ds w_3)
  else
  J5 [(ρ 0), (ρ 5), (ρ 7), (ρ 8), (ρ 41), (ρ 42), (ρ 43)] ds w_3)
  (F4J5 K ag1))
  else
  (vBin (.int .i64) .neq v52 (.int .i64 0) fun v64 =>
  vBool v64 fun g_3 => if g_3 = true then
  (vBin (.int .i64) .neq v52 (.int .i64 1) fun v67 =>
  vBool v64 fun b_3 =>
  vBool v61 fun b_4 =>
  vBool (bif b_4 then (.bool true) else (bif b_3 then v67 else (.bool false))) fun c_6 => if c_6 = true then
   (leaveV ds w_3 fun W => K (.bool false) W)
  else
  joinF [0, 5, 7, 8, 41, 42, 43] (fun J5 =>
  vBin (.int .i64) .eql v52 (.int .i64 0) fun v71_2 =>
  vBool v71_2 fun c_7 => if c_7 = true then
   (vMin (ρ 7) [v47] fun v74_2 =>
   J5 [(ρ 0), (ρ 5), v74_2, v47, (ρ 41), (ρ 42), (ρ 43)] ds w_3)
  else
  J5 [(ρ 0), (ρ 5), (ρ 7), (ρ 8), (ρ 41), (ρ 42), (ρ 43)] ds w_3)
  (F4J5 K ag1))
  else
  (vBool v64 fun b_5 =>
  vBool v61 fun b_6 =>
  vBool (bif b_6 then (.bool true) else (bif b_5 then undef else (.bool false))) fun c_8 => if c_8 = true then
   (leaveV ds w_3 fun W => K (.bool false) W)
  else
  joinF [0, 5, 7, 8, 41, 42, 43] (fun J5 =>
  vBin (.int .i64) .eql v52 (.int .i64 0) fun v71_3 =>
  vBool v71_3 fun c_9 => if c_9 = true then
   (vMin (ρ 7) [v47] fun v74_3 =>
   J5 [(ρ 0), (ρ 5), v74_3, v47, (ρ 41), (ρ 42), (ρ 43)] ds w_3)
  else
  J5 [(ρ 0), (ρ 5), (ρ 7), (ρ 8), (ρ 41), (ρ 42), (ρ 43)] ds w_3)
  (F4J5 K ag1))))
  else
  (vBool v56 fun b_7 =>
  vBin .bool .neq v54 (bif b_7 then undef else (.bool false)) fun v61_2 =>
  vBool v61_2 fun g_4 => if g_4 = true then
  (vBool v61_2 fun b_8 =>
  vBool (bif b_8 then (.bool true) else undef) fun c_10 => if c_10 = true then
   (leaveV ds w_3 fun W => K (.bool false) W)
  else
  joinF [0, 5, 7, 8, 41, 42, 43] (fun J5 =>
  vBin (.int .i64) .eql v52 (.int .i64 0) fun v71_4 =>
  vBool v71_4 fun c_11 => if c_11 = true then
   (vMin (ρ 7) [v47] fun v74_4 =>
   J5 [(ρ 0), (ρ 5), v74_4, v47, (ρ 41), (ρ 42), (ρ 43)] ds w_3)
  else
  J5 [(ρ 0), (ρ 5), (ρ 7), (ρ 8), (ρ 41), (ρ 42), (ρ 43)] ds w_3)
  (F4J5 K ag1))
  else
  (vBin (.int .i64) .neq v52 (.int .i64 0) fun v64_2 =>
  vBool v64_2 fun g_5 => if g_5 = true then
  (vBin (.int .i64) .neq v52 (.int .i64 1) fun v67_2 =>
  vBool v64_2 fun b_9 =>
  vBool v61_2 fun b_10 =>
  vBool (bif b_10 then (.bool true) else (bif b_9 then v67_2 else (.bool false))) fun c_12 => if c_12 = true then
   (leaveV ds w_3 fun W => K (.bool false) W)
  else
  joinF [0, 5, 7, 8, 41, 42, 43] (fun J5 =>
  vBin (.int .i64) .eql v52 (.int .i64 0) fun v71_5 =>
  vBool v71_5 fun c_13 => if c_13 = true then
   (vMin (ρ 7) [v47] fun v74_5 =>
   J5 [(ρ 0), (ρ 5), v74_5, v47, (ρ 41), (ρ 42), (ρ 43)] ds w_3)
  else
  J5 [(ρ 0), (ρ 5), (ρ 7), (ρ 8), (ρ 41), (ρ 42), (ρ 43)] ds w_3)
  (F4J5 K ag1))
  else
  (vBool v64_2 fun b_11 =>
  vBool v61_2 fun b_12 =>
  vBool (bif b_12 then (.bool true) else (bif b_11 then undef else (.bool false))) fun c_14 => if c_14 = true then
   (leaveV ds w_3 fun W => K (.bool false) W)
  else
  joinF [0, 5, 7, 8, 41, 42, 43] (fun J5 =>
  vBin (.int .i64) .eql v52 (.int .i64 0) fun v71_6 =>
  vBool v71_6 fun c_15 => if c_15 = true then
   (vMin (ρ 7) [v47] fun v74_6 =>
   J5 [(ρ 0), (ρ 5), v74_6, v47, (ρ 41), (ρ 42), (ρ 43)] ds w_3)
  else
  J5 [(ρ 0), (ρ 5), (ρ 7), (ρ 8), (ρ 41), (ρ 42), (ρ 43)] ds w_3)
  (F4J5 K ag1)))))
  else
  leaveV ds w fun W => K (.bool true) W

def F4J1 (K : Value → World → Prop) (ρ : Env) (ds : List Nat) (w : World) : Prop :=
  vLen .string (ρ 0) fun v38 =>
  vLen .string (ρ 0) fun v40 =>
  vLen (.slice 1) (ρ 1) fun v42 =>
  loopF [0, 5, 7, 8, 41, 42, 43] [(ρ 0), (ρ 5), v38, v40, (ρ 1), v42, (.int .i64 0)] ds w (F4L1 K)

/-- gatehouse/gatehouselaw03.PagesSizes -/
def F4 (t0 : Value) (t1 : Value) (w : World) (K : Value → World → Prop) : Prop :=
  CallK Try.prog 8 #[] w fun v15 w =>
  vUn .not v15 fun v16 =>
  vBool v16 fun c => if c = true then
   (K (.bool false) w)
  else
  vLen .string t0 fun v19 =>
  vMin v19 [(.int .i64 4096)] fun v20 =>
  vSlice .string t0 none (some v20) fun v21 =>
  vLen .string v21 fun v24 =>
  CallK Try.prog 9 #[v24] w fun v25 w_2 =>
  vExt v25 0 fun v26 =>
  vExt v25 1 fun v27 =>
  joinF [0, 1, 5] (fun J1 =>
  vBin (.int .i64) .neq v27 (.int .i64 0) fun v29 =>
  vBool v29 fun g => if g = true then
  (vBool v29 fun b =>
  vBool (bif b then (.bool true) else undef) fun c_2 => if c_2 = true then
   (K (.bool false) w_2)
  else
  J1 [v21, t1, v26] [] w_2)
  else
  (vBuildSlice Try.prog 41 1 [(0, v21)] w_2 fun v33 w_3 =>
  CallK Try.prog 10 #[v26, (.int .i64 0), v33] w_3 fun v34 w_4 =>
  vBin (.int .i64) .neq v34 (.int .i64 0) fun v35 =>
  vBool v29 fun b_2 =>
  vBool (bif b_2 then (.bool true) else v35) fun c_3 => if c_3 = true then
   (K (.bool false) w_4)
  else
  J1 [v21, t1, v26] [] w_4))
  (F4J1 K)

def tab4 : Tab := { sel := [(21, [0, 5, 7, 8, 12, 14, 41, 42, 43]), (9, [0, 5, 7, 8, 41, 42, 43])], plan := [(18, (.take 0 (.take 1 (.take 2 (.take 3 (.take 4 (.take 5 (.take 6 (.take 7 (.take 8 (.take 9 (.take 10 (.take 11 (.take 12 (.take 13 (.take 14 (.take 15 (.take 16 (.take 17 (.take 18 (.take 20 (.alt 19 (.take 21 (.take 22 .done)) .stop))))))))))))))))))))))], join := [(20, [0, 5, 7, 8, 12, 41, 42, 43]), (17, [0, 5, 7, 8, 41, 42, 43]), (7, [0, 1, 5])] }

theorem F4_eq (t0 : Value) (t1 : Value) (w : World) (K : Value → World → Prop) : enterV Try.prog tab4 Try.f4 [t0, t1] w K = F4 t0 t1 w K := by kernel_rfl

theorem F4_ok {t0 : Value} {t1 : Value} {w : World} {K : Value → World → Prop} (h : F4 t0 t1 w K) : Ret Try.prog 4 #[t0, t1] w K :=
  enter_sound (T := tab4) (args := [t0, t1]) Try.func4 Try.call4 mixed (by kernel_rfl) (by rw [F4_eq]; exact h)

def F5L2 (J2 : List Value → List Nat → World → Prop) (K : Value → World → Prop) (ρ : Env) (ds : List Nat) (w : World) (ag2 : List Value → List Nat → World → Prop) : Prop :=
  vBin (.int .i64) .lss (ρ 42) (ρ 41) fun v43 =>
  vBool v43 fun c_3 => if c_3 = true then
   (vIA (.slice 5) (ρ 40) (ρ 42) fun v45 =>
  vLd (.agg 5) v45 w fun v46 =>
  vAlloc Try.prog 44 w fun v11 w_5 =>
  vSt (some 5) v11 v46 w_5 fun w_6 =>
  vBin (.int .i64) .geq (ρ 42) (.int .i64 200) fun v48 =>
  vBool v48 fun c_4 => if c_4 = true then
   (J2 [(ρ 5), (ρ 7), (ρ 8), (ρ 9)] ds w_6)
  else
  vFA (some 0) v11 fun v49 =>
  vLd .one v49 w_6 fun v50 =>
  vBin (.int .i64) .eql v50 (.int .i64 6) fun v51 =>
  vBool v51 fun c_5 => if c_5 = true then
   (CallK Try.prog 15 #[(ρ 5)] w_6 fun v53 w_7 =>
   vPtr .eql v53 (.pointer none) w_7 fun v55 =>
   vBool v55 fun c_6 => if c_6 = true then
    (leaveV ds w_7 fun W => K (.bool false) W)
   else
   vBuildSlice Try.prog 39 1 [(0, (ρ 5))] w_7 fun v58 w_8 =>
   vAppend Try.prog 39 39 (ρ 8) v58 w_8 fun v59 w_9 =>
   vBuildSlice Try.prog 40 1 [(0, (ρ 7))] w_9 fun v62 w_10 =>
   vAppend Try.prog 40 40 (ρ 9) v62 w_10 fun v63 w_11 =>
   vBin (.int .i64) .add (ρ 42) (.int .i64 1) fun v81 =>
  ag2 [v53, (ρ 7), v59, v63, (ρ 40), (ρ 41), v81] ds w_11)
  else
  vLd (.agg 5) v11 w_6 fun v68 =>
  CallK Try.prog 16 #[(ρ 5), (ρ 7), v68] w_6 fun v69 w_12 =>
  vExt v69 0 fun v70 =>
  vExt v69 1 fun v71 =>
  vUn .not v71 fun v73 =>
  vBool v73 fun g_2 => if g_2 = true then
  (vBool v73 fun b_3 =>
  vBool (bif b_3 then (.bool true) else undef) fun c_7 => if c_7 = true then
   (leaveV ds w_12 fun W => K (.bool false) W)
  else
  vBin (.int .i64) .add (ρ 42) (.int .i64 1) fun v81_2 =>
  ag2 [(ρ 5), v70, (ρ 8), (ρ 9), (ρ 40), (ρ 41), v81_2] ds w_12)
  else
  (CallK Try.prog 17 #[(ρ 5), v70] w_12 fun v77 w_13 =>
  vUn .not v77 fun v78 =>
  vBool v73 fun b_4 =>
  vBool (bif b_4 then (.bool true) else v78) fun c_8 => if c_8 = true then
   (leaveV ds w_13 fun W => K (.bool false) W)
  else
  vBin (.int .i64) .add (ρ 42) (.int .i64 1) fun v81_3 =>
  ag2 [(ρ 5), v70, (ρ 8), (ρ 9), (ρ 40), (ρ 41), v81_3] ds w_13))
  else
  J2 [(ρ 5), (ρ 7), (ρ 8), (ρ 9)] ds w

def F5L1 (K : Value → World → Prop) (ρ : Env) (ds : List Nat) (w : World) (ag1 : List Value → List Nat → World → Prop) : Prop :=
  vBin (.int .i64) .lss (ρ 84) (ρ 83) fun v85 =>
  vBool v85 fun c_3 => if c_3 = true then
   (drawF w fun S =>
  vIA (.slice 1) (ρ 8) (ρ 84) fun v89 =>
  vLdS S .one v89 fun v90 =>
  vIA (.slice 1) (ρ 9) (ρ 84) fun v93 =>
  vLdS S .one v93 fun v94 =>
  (CallK Try.prog 17 #[v90, v94] w.drew fun v95 w_5 =>
  S w_5 ∧ (vUn .not v95 fun v96 =>
  vBool v96 fun c_4 => if c_4 = true then
   (leaveV ds w_5 fun W => K (.bool false) W)
  else
  vBin (.int .i64) .add (ρ 84) (.int .i64 1) fun v97 =>
  ag1 [(ρ 5), (ρ 7), (ρ 8), (ρ 9), (ρ 83), v97] ds w_5)) ∧
  (True))
  else
  CallK Try.prog 17 #[(ρ 5), (ρ 7)] w fun v100 w_6 =>
  leaveV ds w_6 fun W => K v100 W

def F5J2 (K : Value → World → Prop) (ρ : Env) (ds : List Nat) (w : World) : Prop :=
  vLen (.slice 1) (ρ 8) fun v83 =>
  loopF [5, 7, 8, 9, 83, 84] [(ρ 5), (ρ 7), (ρ 8), (ρ 9), v83, (.int .i64 0)] ds w (F5L1 K)

def F5J1 (K : Value → World → Prop) (ρ : Env) (ds : List Nat) (w : World) : Prop :=
  vMakeSlice Try.prog 38 (ρ 0) (ρ 0) w fun v39 w_4 =>
  joinF [5, 7, 8, 9] (fun J2 =>
  vLen (.slice 5) (ρ 1) fun v41 =>
  loopF [5, 7, 8, 9, 40, 41, 42] [(ρ 5), v39, (.slice none 0 0), (.slice none 0 0), (ρ 1), v41, (.int .i64 0)] ds w_4 (F5L2 J2 K))
  (F5J2 K)

/-- gatehouse/gatehouselaw03.PagesPlay -/
def F5 (t0 : Value) (t1 : Value) (w : World) (K : Value → World → Prop) : Prop :=
  CallK Try.prog 8 #[] w fun v16 w =>
  vUn .not v16 fun v17 =>
  vBool v17 fun c => if c = true then
   (K (.bool false) w)
  else
  CallK Try.prog 9 #[t0] w fun v20 w_2 =>
  vExt v20 0 fun v21 =>
  vExt v20 1 fun v22 =>
  CallK Try.prog 14 #[t0] w_2 fun v24 w_3 =>
  vUn .not v24 fun v25 =>
  vBool v25 fun c_2 => if c_2 = true then
   (vBin (.int .i64) .eql v22 (.int .i64 1) fun v27 =>
   vBool v27 fun g => if g = true then
   (vPtr .eql v21 (.pointer none) w_3 fun v30 =>
   vBool v27 fun b =>
   K (bif b then v30 else (.bool false)) w_3)
   else
   (vBool v27 fun b_2 =>
   K (bif b_2 then undef else (.bool false)) w_3))
  else
  joinF [0, 1, 5] (fun J1 =>
  vBin (.int .i64) .neq v22 (.int .i64 0) fun v33 =>
  vBool v33 fun g_2 => if g_2 = true then
  (vBool v33 fun b_3 =>
  vBool (bif b_3 then (.bool true) else undef) fun c_3 => if c_3 = true then
   (K (.bool false) w_3)
  else
  J1 [t0, t1, v21] [] w_3)
  else
  (vPtr .eql v21 (.pointer none) w_3 fun v36 =>
  vBool v33 fun b_4 =>
  vBool (bif b_4 then (.bool true) else v36) fun c_4 => if c_4 = true then
   (K (.bool false) w_3)
  else
  J1 [t0, t1, v21] [] w_3))
  (F5J1 K)

def tab5 : Tab := { sel := [(28, [5, 7, 8, 9, 83, 84]), (12, [5, 7, 8, 9, 40, 41, 42])], plan := [(30, (.take 0 (.take 1 (.take 2 (.take 3 (.take 4 (.take 5 (.take 6 (.take 7 (.alt 8 (.take 9 .done) .stop))))))))))], join := [(27, [5, 7, 8, 9]), (8, [0, 1, 5])] }

theorem F5_eq (t0 : Value) (t1 : Value) (w : World) (K : Value → World → Prop) : enterV Try.prog tab5 Try.f5 [t0, t1] w K = F5 t0 t1 w K := by kernel_rfl

theorem F5_ok {t0 : Value} {t1 : Value} {w : World} {K : Value → World → Prop} (h : F5 t0 t1 w K) : Ret Try.prog 5 #[t0, t1] w K :=
  enter_sound (T := tab5) (args := [t0, t1]) Try.func5 Try.call5 mixed (by kernel_rfl) (by rw [F5_eq]; exact h)

def F6J2 (K : Value → World → Prop) (ag1 : List Value → List Nat → World → Prop) (ρ : Env) (ds : List Nat) (w : World) : Prop :=
  vBool (ρ 58) fun c_4 => if c_4 = true then
   (vLd (.agg 5) (ρ 13) w fun v62 =>
   CallK Try.prog 16 #[(ρ 9), (ρ 11), v62] w fun v63 w_6 =>
   vExt v63 0 fun v64 =>
   vExt v63 1 fun v65 =>
   vUn .not v65 fun v67 =>
   vBool v67 fun c_5 => if c_5 = true then
    (leaveV ds w_6 fun W => K (.bool false) W)
   else
   vBin (.int .i64) .add (ρ 47) (.int .i64 1) fun v69 =>
  ag1 [(ρ 1), (ρ 3), (ρ 9), v64, (ρ 45), (ρ 46), v69] ds w_6)
  else
  vBin (.int .i64) .add (ρ 47) (.int .i64 1) fun v69_2 =>
  ag1 [(ρ 1), (ρ 3), (ρ 9), (ρ 11), (ρ 45), (ρ 46), v69_2] ds w

def F6J5 (K : Value → World → Prop) (ag2 : List Value → List Nat → World → Prop) (ρ : Env) (ds : List Nat) (w : World) : Prop :=
  vBool (ρ 98) fun c_5 => if c_5 = true then
   (vLd (.agg 5) (ρ 19) w fun v102 =>
   CallK Try.prog 16 #[(ρ 16), (ρ 17), v102] w fun v103 w_11 =>
   vExt v103 0 fun v104 =>
   vExt v103 1 fun v105 =>
   vUn .not v105 fun v107 =>
   vBool v107 fun c_6 => if c_6 = true then
    (leaveV ds w_11 fun W => K (.bool false) W)
   else
   vBin (.int .i64) .add (ρ 87) (.int .i64 1) fun v109 =>
  ag2 [(ρ 9), (ρ 11), (ρ 16), v104, (ρ 85), (ρ 86), v109] ds w_11)
  else
  vBin (.int .i64) .add (ρ 87) (.int .i64 1) fun v109_2 =>
  ag2 [(ρ 9), (ρ 11), (ρ 16), (ρ 17), (ρ 85), (ρ 86), v109_2] ds w

def F6L3 (K : Value → World → Prop) (ρ : Env) (ds : List Nat) (w : World) (ag3 : List Value → List Nat → World → Prop) : Prop :=
  vBin (.int .i64) .lss (ρ 133) (ρ 132) fun v134 =>
  vBool v134 fun c_5 => if c_5 = true then
   (drawF w fun S =>
  vIA (.slice 1) (ρ 22) (ρ 133) fun v138 =>
  vLdS S .one v138 fun v139 =>
  vIA (.slice 1) (ρ 24) (ρ 133) fun v142 =>
  vLdS S .one v142 fun v143 =>
  vBin (.int .i64) .neq v139 v143 fun v144 =>
  vBool v144 fun g_3 => if g_3 = true then
  (vBool v144 fun b_5 =>
  vBool (bif b_5 then (.bool true) else undef) fun c_6 => if c_6 = true then
   (leaveV ds w.drew fun W => K (.bool false) W)
  else
  vBin (.int .i64) .add (ρ 133) (.int .i64 1) fun v156 =>
  ag3 [(ρ 9), (ρ 22), (ρ 23), (ρ 24), (ρ 132), v156] ds w.drew)
  else
  (vIA (.slice 1) (ρ 23) (ρ 133) fun v148 =>
  vLdS S .one v148 fun v149 =>
  vIA (.slice 1) (ρ 24) (ρ 133) fun v152 =>
  vLdS S .one v152 fun v153 =>
  vBin (.int .i64) .neq v149 v153 fun v154 =>
  vBool v144 fun b_6 =>
  vBool (bif b_6 then (.bool true) else v154) fun c_7 => if c_7 = true then
   (leaveV ds w.drew fun W => K (.bool false) W)
  else
  vBin (.int .i64) .add (ρ 133) (.int .i64 1) fun v156_2 =>
  ag3 [(ρ 9), (ρ 22), (ρ 23), (ρ 24), (ρ 132), v156_2] ds w.drew))
  else
  CallK Try.prog 18 #[(ρ 9), (ρ 9)] w fun v159 w_14 =>
  vLen (.slice 1) v159 fun v160 =>
  vBin (.int .i64) .eql v160 (.int .i64 0) fun v161 =>
  leaveV ds w_14 fun W => K v161 W

def F6J6 (K : Value → World → Prop) (ρ : Env) (ds : List Nat) (w : World) : Prop :=
  vLen (.slice 1) (ρ 24) fun v132 =>
  loopF [9, 22, 23, 24, 132, 133] [(ρ 9), (ρ 22), (ρ 23), (ρ 24), v132, (.int .i64 0)] ds w (F6L3 K)

def F6L2 (K : Value → World → Prop) (ρ : Env) (ds : List Nat) (w : World) (ag2 : List Value → List Nat → World → Prop) : Prop :=
  vBin (.int .i64) .lss (ρ 87) (ρ 86) fun v88 =>
  vBool v88 fun c_4 => if c_4 = true then
   (vIA (.slice 5) (ρ 85) (ρ 87) fun v90 =>
  vLd (.agg 5) v90 w fun v91 =>
  vAlloc Try.prog 44 w fun v19 w_9 =>
  vSt (some 5) v19 v91 w_9 fun w_10 =>
  joinF [9, 11, 16, 17, 19, 85, 86, 87, 98] (fun J5 =>
  vBin (.int .i64) .lss (ρ 87) (.int .i64 40) fun v93 =>
  vBool v93 fun g_2 => if g_2 = true then
  (vFA (some 0) v19 fun v95 =>
  vLd .one v95 w_10 fun v96 =>
  vBin (.int .i64) .neq v96 (.int .i64 6) fun v97 =>
  vBool v93 fun b_3 =>
  J5 [(ρ 9), (ρ 11), (ρ 16), (ρ 17), v19, (ρ 85), (ρ 86), (ρ 87), (bif b_3 then v97 else (.bool false))] ds w_10)
  else
  (vBool v93 fun b_4 =>
  J5 [(ρ 9), (ρ 11), (ρ 16), (ρ 17), v19, (ρ 85), (ρ 86), (ρ 87), (bif b_4 then undef else (.bool false))] ds w_10))
  (F6J5 K ag2))
  else
  CallK Try.prog 18 #[(ρ 9), (ρ 16)] w fun v112 w_11 =>
  CallK Try.prog 18 #[(ρ 16), (ρ 9)] w_11 fun v115 w_12 =>
  CallK Try.prog 19 #[(ρ 11), (ρ 17)] w_12 fun v118 w_13 =>
  joinF [9, 22, 23, 24] (fun J6 =>
  vLen (.slice 1) v112 fun v120 =>
  vLen (.slice 1) v118 fun v122 =>
  vBin (.int .i64) .neq v120 v122 fun v123 =>
  vBool v123 fun g_3 => if g_3 = true then
  (vBool v123 fun b_5 =>
  vBool (bif b_5 then (.bool true) else undef) fun c_5 => if c_5 = true then
   (leaveV ds w_13 fun W => K (.bool false) W)
  else
  J6 [(ρ 9), v112, v115, v118] ds w_13)
  else
  (vLen (.slice 1) v115 fun v126 =>
  vLen (.slice 1) v118 fun v128 =>
  vBin (.int .i64) .neq v126 v128 fun v129 =>
  vBool v123 fun b_6 =>
  vBool (bif b_6 then (.bool true) else v129) fun c_6 => if c_6 = true then
   (leaveV ds w_13 fun W => K (.bool false) W)
  else
  J6 [(ρ 9), v112, v115, v118] ds w_13))
  (F6J6 K)

def F6J3 (K : Value → World → Prop) (ρ : Env) (ds : List Nat) (w : World) : Prop :=
  vLen (.slice 5) (ρ 3) fun v86 =>
  loopF [9, 11, 16, 17, 85, 86, 87] [(ρ 9), (ρ 11), (ρ 16), (ρ 17), (ρ 3), v86, (.int .i64 0)] ds w (F6L2 K)

def F6L1 (K : Value → World → Prop) (ρ : Env) (ds : List Nat) (w : World) (ag1 : List Value → List Nat → World → Prop) : Prop :=
  vBin (.int .i64) .lss (ρ 47) (ρ 46) fun v48 =>
  vBool v48 fun c_3 => if c_3 = true then
   (vIA (.slice 5) (ρ 45) (ρ 47) fun v50 =>
  vLd (.agg 5) v50 w fun v51 =>
  vAlloc Try.prog 44 w fun v13 w_4 =>
  vSt (some 5) v13 v51 w_4 fun w_5 =>
  joinF [1, 3, 9, 11, 13, 45, 46, 47, 58] (fun J2 =>
  vBin (.int .i64) .lss (ρ 47) (.int .i64 40) fun v53 =>
  vBool v53 fun g => if g = true then
  (vFA (some 0) v13 fun v55 =>
  vLd .one v55 w_5 fun v56 =>
  vBin (.int .i64) .neq v56 (.int .i64 6) fun v57 =>
  vBool v53 fun b =>
  J2 [(ρ 1), (ρ 3), (ρ 9), (ρ 11), v13, (ρ 45), (ρ 46), (ρ 47), (bif b then v57 else (.bool false))] ds w_5)
  else
  (vBool v53 fun b_2 =>
  J2 [(ρ 1), (ρ 3), (ρ 9), (ρ 11), v13, (ρ 45), (ρ 46), (ρ 47), (bif b_2 then undef else (.bool false))] ds w_5))
  (F6J2 K ag1))
  else
  CallK Try.prog 15 #[(ρ 9)] w fun v71 w_6 =>
  vBuildSlice Try.prog 38 0 [] w_6 fun v72 w_7 =>
  vAppend Try.prog 38 38 v72 (ρ 11) w_7 fun v74 w_8 =>
  joinF [3, 9, 11, 16, 17] (fun J3 =>
  vBin (.int .i64) .rem (ρ 1) (.int .i64 3) fun v76 =>
  vBin (.int .i64) .eql v76 (.int .i64 0) fun v77 =>
  vBool v77 fun c_4 => if c_4 = true then
   (CallK Try.prog 9 #[(ρ 1)] w_8 fun v80 w_9 =>
   vExt v80 0 fun v81 =>
   vExt v80 1 fun v82 =>
   vMakeSlice Try.prog 38 (ρ 1) (ρ 1) w_9 fun v84 w_10 =>
   J3 [(ρ 3), (ρ 9), (ρ 11), v81, v84] ds w_10)
  else
  J3 [(ρ 3), (ρ 9), (ρ 11), v71, v74] ds w_8)
  (F6J3 K)

/-- gatehouse/gatehouselaw03.PagesUnlike -/
def F6 (t0 : Value) (t1 : Value) (t2 : Value) (t3 : Value) (w : World) (K : Value → World → Prop) : Prop :=
  CallK Try.prog 8 #[] w fun v26 w =>
  vUn .not v26 fun v27 =>
  vBool v27 fun c => if c = true then
   (K (.bool false) w)
  else
  vConv (.int .u64) t0 fun v29 =>
  vBin (.int .u64) .rem v29 (.int .u64 4097) fun v30 =>
  vConv (.int .i64) v30 fun v31 =>
  vConv (.int .u64) t1 fun v33 =>
  vBin (.int .u64) .rem v33 (.int .u64 4097) fun v34 =>
  vConv (.int .i64) v34 fun v35 =>
  CallK Try.prog 9 #[v31] w fun v38 w_2 =>
  vExt v38 0 fun v39 =>
  vExt v38 1 fun v40 =>
  vBin (.int .i64) .neq v40 (.int .i64 0) fun v42 =>
  vBool v42 fun c_2 => if c_2 = true then
   (K (.bool false) w_2)
  else
  vMakeSlice Try.prog 38 v31 v31 w_2 fun v44 w_3 =>
  vLen (.slice 5) t2 fun v46 =>
  loopF [1, 3, 9, 11, 45, 46, 47] [v35, t3, v39, v44, t2, v46, (.int .i64 0)] [] w_3 (F6L1 K)

def tab6 : Tab := { sel := [(36, [9, 22, 23, 24, 132, 133]), (23, [9, 11, 16, 17, 85, 86, 87]), (9, [1, 3, 9, 11, 45, 46, 47])], plan := [(38, (.take 0 (.take 1 (.take 2 (.take 3 (.take 4 (.take 5 (.take 6 (.take 7 (.take 8 (.take 9 (.take 10 (.take 11 (.take 12 (.take 13 (.take 14 (.take 15 (.take 16 (.take 17 (.take 18 (.take 19 .done)))))))))))))))))))))], join := [(35, [9, 22, 23, 24]), (26, [9, 11, 16, 17, 19, 85, 86, 87, 98]), (22, [3, 9, 11, 16, 17]), (12, [1, 3, 9, 11, 13, 45, 46, 47, 58])] }

theorem F6_eq (t0 : Value) (t1 : Value) (t2 : Value) (t3 : Value) (w : World) (K : Value → World → Prop) : enterV Try.prog tab6 Try.f6 [t0, t1, t2, t3] w K = F6 t0 t1 t2 t3 w K := by kernel_rfl

theorem F6_ok {t0 : Value} {t1 : Value} {t2 : Value} {t3 : Value} {w : World} {K : Value → World → Prop} (h : F6 t0 t1 t2 t3 w K) : Ret Try.prog 6 #[t0, t1, t2, t3] w K :=
  enter_sound (T := tab6) (args := [t0, t1, t2, t3]) Try.func6 Try.call6 mixed (by kernel_rfl) (by rw [F6_eq]; exact h)

def F7J6 (J1 : List Value → List Nat → World → Prop) (K : Value → World → Prop) (ρ : Env) (ds : List Nat) (w : World) : Prop :=
  vBool (ρ 52) fun c_3 => if c_3 = true then
   (vBin (.int .i64) .eql (ρ 11) (.int .i64 9) fun v54 =>
   vBool v54 fun g => if g = true then
   (vBin (.int .i64) .eql (ρ 13) (.int .i64 9) fun v57 =>
   vBool v54 fun b =>
   vBool (bif b then v57 else (.bool false)) fun g_2 => if g_2 = true then
   (vBin (.int .u64) .eql (ρ 12) (.int .u64 0) fun v61 =>
   vBool (bif b then v57 else (.bool false)) fun b_2 =>
   leaveV ds w fun W => K (bif b_2 then v61 else (.bool false)) W)
   else
   (vBool (bif b then v57 else (.bool false)) fun b_3 =>
   leaveV ds w fun W => K (bif b_3 then undef else (.bool false)) W))
   else
   (vBool v54 fun b_4 =>
   vBool (bif b_4 then undef else (.bool false)) fun g_3 => if g_3 = true then
   (vBin (.int .u64) .eql (ρ 12) (.int .u64 0) fun v61_2 =>
   vBool (bif b_4 then undef else (.bool false)) fun b_5 =>
   leaveV ds w fun W => K (bif b_5 then v61_2 else (.bool false)) W)
   else
   (vBool (bif b_4 then undef else (.bool false)) fun b_6 =>
   leaveV ds w fun W => K (bif b_6 then undef else (.bool false)) W)))
  else
  J1 [(ρ 1), (ρ 2), (ρ 3), (ρ 9), (ρ 11), (ρ 12), (ρ 13)] ds w

def F7L1 (K : Value → World → Prop) (ρ : Env) (ds : List Nat) (w : World) (ag1 : List Value → List Nat → World → Prop) : Prop :=
  vBin (.int .i64) .lss (ρ 15) (.int .i64 8) fun v88 =>
  vBool v88 fun c_3 => if c_3 = true then
   (vIx .string .bad (ρ 14) (ρ 15) fun v93 =>
  vBin (.int .i64) .mul (.int .i64 8) (ρ 15) fun v96 =>
  vConv (.int .u64) v96 fun v97 =>
  vBin (.int .u64) .shr (ρ 2) v97 fun v98 =>
  vConv (.int .u8) v98 fun v99 =>
  vBin (.int .u8) .neq v93 v99 fun v100 =>
  vBool v100 fun c_4 => if c_4 = true then
   (leaveV ds w fun W => K (.bool false) W)
  else
  vBin (.int .i64) .add (ρ 15) (.int .i64 1) fun v90 =>
  ag1 [(ρ 1), (ρ 2), (ρ 3), (ρ 9), (ρ 14), v90] ds w)
  else
  CallK Try.prog 15 #[(ρ 9)] w fun v102 w_6 =>
  CallK Try.prog 20 #[v102, (ρ 1), (ρ 3)] w_6 fun v106 w_7 =>
  vBin (.int .i64) .neq v106 (.int .i64 0) fun v107 =>
  vBool v107 fun c_5 => if c_5 = true then
   (leaveV ds w_7 fun W => K (.bool false) W)
  else
  CallK Try.prog 21 #[(ρ 9), (ρ 1)] w_7 fun v111 w_8 =>
  vExt v111 0 fun v112 =>
  vExt v111 1 fun v113 =>
  vBin (.int .u64) .eql v112 (ρ 2) fun v116 =>
  vBool v116 fun g => if g = true then
  (CallK Try.prog 18 #[(ρ 9), v102] w_8 fun v120 w_9 =>
  vLen (.slice 1) v120 fun v121 =>
  vBin (.int .i64) .eql v121 (.int .i64 0) fun v122 =>
  vBin (.int .u64) .eql (ρ 2) (ρ 3) fun v125 =>
  vBin .bool .eql v122 v125 fun v126 =>
  vBool v116 fun b =>
  leaveV ds w_9 fun W => K (bif b then v126 else (.bool false)) W)
  else
  (vBool v116 fun b_2 =>
  leaveV ds w_8 fun W => K (bif b_2 then undef else (.bool false)) W)

def F7J3 (K : Value → World → Prop) (ρ : Env) (ds : List Nat) (w : World) : Prop :=
  loopF [1, 2, 3, 9, 14, 15] [(ρ 1), (ρ 2), (ρ 3), (ρ 9), (ρ 14), (.int .i64 0)] ds w (F7L1 K)

def F7J2 (K : Value → World → Prop) (ρ : Env) (ds : List Nat) (w : World) : Prop :=
  CallK Try.prog 11 #[(ρ 9), (ρ 1), (.int .i64 8)] w fun v77 w_5 =>
  vExt v77 0 fun v78 =>
  vExt v77 1 fun v79 =>
  joinF [1, 2, 3, 9, 14] (fun J3 =>
  vBin (.int .i64) .neq v79 (.int .i64 0) fun v81 =>
  vBool v81 fun g => if g = true then
  (vBool v81 fun b =>
  vBool (bif b then (.bool true) else undef) fun c_3 => if c_3 = true then
   (leaveV ds w_5 fun W => K (.bool false) W)
  else
  J3 [(ρ 1), (ρ 2), (ρ 3), (ρ 9), v78] ds w_5)
  else
  (vLen .string v78 fun v84 =>
  vBin (.int .i64) .neq v84 (.int .i64 8) fun v85 =>
  vBool v81 fun b_2 =>
  vBool (bif b_2 then (.bool true) else v85) fun c_4 => if c_4 = true then
   (leaveV ds w_5 fun W => K (.bool false) W)
  else
  J3 [(ρ 1), (ρ 2), (ρ 3), (ρ 9), v78] ds w_5))
  (F7J3 K)

def F7J1 (K : Value → World → Prop) (ρ : Env) (ds : List Nat) (w : World) : Prop :=
  joinF [1, 2, 3, 9] (fun J2 =>
  vBin (.int .i64) .neq (ρ 11) (.int .i64 0) fun v64 =>
  vBool v64 fun g => if g = true then
  (vBool v64 fun b =>
  vBool (bif b then (.bool true) else undef) fun g_2 => if g_2 = true then
  (vBool (bif b then (.bool true) else undef) fun b_2 =>
  vBool (bif b_2 then (.bool true) else undef) fun c_3 => if c_3 = true then
   (leaveV ds w fun W => K (.bool false) W)
  else
  J2 [(ρ 1), (ρ 2), (ρ 3), (ρ 9)] ds w)
  else
  (vBin (.int .u64) .neq (ρ 12) (ρ 2) fun v72 =>
  vBool (bif b then (.bool true) else undef) fun b_3 =>
  vBool (bif b_3 then (.bool true) else v72) fun c_4 => if c_4 = true then
   (leaveV ds w fun W => K (.bool false) W)
  else
  J2 [(ρ 1), (ρ 2), (ρ 3), (ρ 9)] ds w))
  else
  (vBin (.int .i64) .neq (ρ 13) (.int .i64 0) fun v67 =>
  vBool v64 fun b_4 =>
  vBool (bif b_4 then (.bool true) else v67) fun g_3 => if g_3 = true then
  (vBool (bif b_4 then (.bool true) else v67) fun b_5 =>
  vBool (bif b_5 then (.bool true) else undef) fun c_5 => if c_5 = true then
   (leaveV ds w fun W => K (.bool false) W)
  else
  J2 [(ρ 1), (ρ 2), (ρ 3), (ρ 9)] ds w)
  else
  (vBin (.int .u64) .neq (ρ 12) (ρ 2) fun v72_2 =>
  vBool (bif b_4 then (.bool true) else v67) fun b_6 =>
  vBool (bif b_6 then (.bool true) else v72_2) fun c_6 => if c_6 = true then
   (leaveV ds w fun W => K (.bool false) W)
  else
  J2 [(ρ 1), (ρ 2), (ρ 3), (ρ 9)] ds w)))
  (F7J2 K)

/-- gatehouse/gatehouselaw03.PagesWords -/
def F7 (t0 : Value) (t1 : Value) (t2 : Value) (t3 : Value) (w : World) (K : Value → World → Prop) : Prop :=
  CallK Try.prog 8 #[] w fun v17 w =>
  vUn .not v17 fun v18 =>
  vBool v18 fun c => if c = true then
   (K (.bool false) w)
  else
  vConv (.int .u64) t0 fun v20 =>
  vBin (.int .u64) .rem v20 (.int .u64 200) fun v21 =>
  vConv (.int .i64) v21 fun v22 =>
  CallK Try.prog 9 #[v22] w fun v25 w_2 =>
  vExt v25 0 fun v26 =>
  vExt v25 1 fun v27 =>
  vBin (.int .i64) .neq v27 (.int .i64 0) fun v29 =>
  vBool v29 fun c_2 => if c_2 = true then
   (K (.bool false) w_2)
  else
  CallK Try.prog 20 #[v26, t1, t2] w_2 fun v33 w_3 =>
  CallK Try.prog 21 #[v26, t1] w_3 fun v37 w_4 =>
  vExt v37 0 fun v38 =>
  vExt v37 1 fun v39 =>
  joinF [1, 2, 3, 9, 11, 12, 13] (fun J1 =>
  joinF [1, 2, 3, 9, 11, 12, 13, 52] (fun J6 =>
  vBin (.int .i64) .lss t1 (.int .i64 0) fun v41 =>
  vBool v41 fun g => if g = true then
  (vBool v41 fun b =>
  vBool (bif b then (.bool true) else undef) fun g_2 => if g_2 = true then
  (vBool (bif b then (.bool true) else undef) fun b_2 =>
  J6 [t1, t2, t3, v26, v33, v38, v39, (bif b_2 then (.bool true) else undef)] [] w_4)
  else
  (vBin (.int .i64) .sub v22 t1 fun v50 =>
  vBin (.int .i64) .lss v50 (.int .i64 8) fun v51 =>
  vBool (bif b then (.bool true) else undef) fun b_3 =>
  J6 [t1, t2, t3, v26, v33, v38, v39, (bif b_3 then (.bool true) else v51)] [] w_4))
  else
  (vBin (.int .i64) .gtr t1 v22 fun v45 =>
  vBool v41 fun b_4 =>
  vBool (bif b_4 then (.bool true) else v45) fun g_3 => if g_3 = true then
  (vBool (bif b_4 then (.bool true) else v45) fun b_5 =>
  J6 [t1, t2, t3, v26, v33, v38, v39, (bif b_5 then (.bool true) else undef)] [] w_4)
  else
  (vBin (.int .i64) .sub v22 t1 fun v50_2 =>
  vBin (.int .i64) .lss v50_2 (.int .i64 8) fun v51_2 =>
  vBool (bif b_4 then (.bool true) else v45) fun b_6 =>
  J6 [t1, t2, t3, v26, v33, v38, v39, (bif b_6 then (.bool true) else v51_2)] [] w_4)))
  (F7J6 J1 K))
  (F7J1 K)

def tab7 : Tab := { sel := [(17, [1, 2, 3, 9, 14, 15])], plan := [], join := [(16, [1, 2, 3, 9, 14]), (13, [1, 2, 3, 9]), (11, [1, 2, 3, 9, 11, 12, 13]), (10, [1, 2, 3, 9, 11, 12, 13, 52])] }

theorem F7_eq (t0 : Value) (t1 : Value) (t2 : Value) (t3 : Value) (w : World) (K : Value → World → Prop) : enterV Try.prog tab7 Try.f7 [t0, t1, t2, t3] w K = F7 t0 t1 t2 t3 w K := by kernel_rfl

theorem F7_ok {t0 : Value} {t1 : Value} {t2 : Value} {t3 : Value} {w : World} {K : Value → World → Prop} (h : F7 t0 t1 t2 t3 w K) : Ret Try.prog 7 #[t0, t1, t2, t3] w K :=
  enter_sound (T := tab7) (args := [t0, t1, t2, t3]) Try.func7 Try.call7 mixed (by kernel_rfl) (by rw [F7_eq]; exact h)

def F8J2 (K : Value → World → Prop) (ρ : Env) (ds : List Nat) (w : World) : Prop :=
  CallK Try.prog 11 #[(ρ 1), (.int .i64 0), (.int .i64 4)] w fun v43 w_3 =>
  vExt v43 0 fun v44 =>
  vExt v43 1 fun v45 =>
  vBin (.int .i64) .eql v45 (.int .i64 0) fun v47 =>
  vBool v47 fun g => if g = true then
  (vBin .string .eql v44 (.string ⟨#[0, 97, 0, 0]⟩) fun v50 =>
  vBool v47 fun b =>
  vBool (bif b then v50 else (.bool false)) fun g_2 => if g_2 = true then
  (CallK Try.prog 22 #[(ρ 1)] w_3 fun v54 w_4 =>
  vBin (.int .i64) .eql v54 (.int .i64 1) fun v55 =>
  vBool (bif b then v50 else (.bool false)) fun b_2 =>
  leaveV ds w_4 fun W => K (bif b_2 then v55 else (.bool false)) W)
  else
  (vBool (bif b then v50 else (.bool false)) fun b_3 =>
  leaveV ds w_3 fun W => K (bif b_3 then undef else (.bool false)) W))
  else
  (vBool v47 fun b_4 =>
  vBool (bif b_4 then undef else (.bool false)) fun g_3 => if g_3 = true then
  (CallK Try.prog 22 #[(ρ 1)] w_3 fun v54_2 w_5 =>
  vBin (.int .i64) .eql v54_2 (.int .i64 1) fun v55_2 =>
  vBool (bif b_4 then undef else (.bool false)) fun b_5 =>
  leaveV ds w_5 fun W => K (bif b_5 then v55_2 else (.bool false)) W)
  else
  (vBool (bif b_4 then undef else (.bool false)) fun b_6 =>
  leaveV ds w_3 fun W => K (bif b_6 then undef else (.bool false)) W))

def F8J1 (K : Value → World → Prop) (ρ : Env) (ds : List Nat) (w : World) : Prop :=
  CallK Try.prog 11 #[(ρ 1), (.int .i64 1), (.int .i64 2)] w fun v22 w_2 =>
  vExt v22 0 fun v23 =>
  vExt v22 1 fun v24 =>
  joinF [1] (fun J2 =>
  vBin (.int .i64) .neq v24 (.int .i64 0) fun v26 =>
  vBool v26 fun g => if g = true then
  (vBool v26 fun b =>
  vBool (bif b then (.bool true) else undef) fun g_2 => if g_2 = true then
  (vBool (bif b then (.bool true) else undef) fun b_2 =>
  vBool (bif b_2 then (.bool true) else undef) fun g_3 => if g_3 = true then
  (vBool (bif b_2 then (.bool true) else undef) fun b_3 =>
  vBool (bif b_3 then (.bool true) else undef) fun c => if c = true then
   (leaveV ds w_2 fun W => K (.bool false) W)
  else
  J2 [(ρ 1)] ds w_2)
  else
  (CallK Try.prog 12 #[(ρ 1), (.int .i64 4)] w_2 fun v38 w_3 =>
  vBin (.int .i64) .neq v38 (.int .i64 0) fun v39 =>
  vBool (bif b_2 then (.bool true) else undef) fun b_4 =>
  vBool (bif b_4 then (.bool true) else v39) fun c_2 => if c_2 = true then
   (leaveV ds w_3 fun W => K (.bool false) W)
  else
  J2 [(ρ 1)] ds w_3))
  else
  (CallK Try.prog 12 #[(ρ 1), (.int .i64 2)] w_2 fun v33 w_4 =>
  vBin (.int .i64) .neq v33 (.int .i64 0) fun v34 =>
  vBool (bif b then (.bool true) else undef) fun b_5 =>
  vBool (bif b_5 then (.bool true) else v34) fun g_4 => if g_4 = true then
  (vBool (bif b_5 then (.bool true) else v34) fun b_6 =>
  vBool (bif b_6 then (.bool true) else undef) fun c_3 => if c_3 = true then
   (leaveV ds w_4 fun W => K (.bool false) W)
  else
  J2 [(ρ 1)] ds w_4)
  else
  (CallK Try.prog 12 #[(ρ 1), (.int .i64 4)] w_4 fun v38_2 w_5 =>
  vBin (.int .i64) .neq v38_2 (.int .i64 0) fun v39_2 =>
  vBool (bif b_5 then (.bool true) else v34) fun b_7 =>
  vBool (bif b_7 then (.bool true) else v39_2) fun c_4 => if c_4 = true then
   (leaveV ds w_5 fun W => K (.bool false) W)
  else
  J2 [(ρ 1)] ds w_5)))
  else
  (vBin .string .neq v23 (.string ⟨#[97, 98]⟩) fun v29 =>
  vBool v26 fun b_8 =>
  vBool (bif b_8 then (.bool true) else v29) fun g_5 => if g_5 = true then
  (vBool (bif b_8 then (.bool true) else v29) fun b_9 =>
  vBool (bif b_9 then (.bool true) else undef) fun g_6 => if g_6 = true then
  (vBool (bif b_9 then (.bool true) else undef) fun b_10 =>
  vBool (bif b_10 then (.bool true) else undef) fun c_5 => if c_5 = true then
   (leaveV ds w_2 fun W => K (.bool false) W)
  else
  J2 [(ρ 1)] ds w_2)
  else
  (CallK Try.prog 12 #[(ρ 1), (.int .i64 4)] w_2 fun v38_3 w_6 =>
  vBin (.int .i64) .neq v38_3 (.int .i64 0) fun v39_3 =>
  vBool (bif b_9 then (.bool true) else undef) fun b_11 =>
  vBool (bif b_11 then (.bool true) else v39_3) fun c_6 => if c_6 = true then
   (leaveV ds w_6 fun W => K (.bool false) W)
  else
  J2 [(ρ 1)] ds w_6))
  else
  (CallK Try.prog 12 #[(ρ 1), (.int .i64 2)] w_2 fun v33_2 w_7 =>
  vBin (.int .i64) .neq v33_2 (.int .i64 0) fun v34_2 =>
  vBool (bif b_8 then (.bool true) else v29) fun b_12 =>
  vBool (bif b_12 then (.bool true) else v34_2) fun g_7 => if g_7 = true then
  (vBool (bif b_12 then (.bool true) else v34_2) fun b_13 =>
  vBool (bif b_13 then (.bool true) else undef) fun c_7 => if c_7 = true then
   (leaveV ds w_7 fun W => K (.bool false) W)
  else
  J2 [(ρ 1)] ds w_7)
  else
  (CallK Try.prog 12 #[(ρ 1), (.int .i64 4)] w_7 fun v38_4 w_8 =>
  vBin (.int .i64) .neq v38_4 (.int .i64 0) fun v39_4 =>
  vBool (bif b_12 then (.bool true) else v34_2) fun b_14 =>
  vBool (bif b_14 then (.bool true) else v39_4) fun c_8 => if c_8 = true then
   (leaveV ds w_8 fun W => K (.bool false) W)
  else
  J2 [(ρ 1)] ds w_8))))
  (F8J2 K)

/-- gatehouse/gatehouselaw03.lives -/
def F8 (w : World) (K : Value → World → Prop) : Prop :=
  CallK Try.prog 9 #[(.int .i64 3)] w fun v5 w =>
  vExt v5 0 fun v6 =>
  vExt v5 1 fun v7 =>
  joinF [1] (fun J1 =>
  vBin (.int .i64) .neq v7 (.int .i64 0) fun v9 =>
  vBool v9 fun g => if g = true then
  (vBool v9 fun b =>
  vBool (bif b then (.bool true) else undef) fun g_2 => if g_2 = true then
  (vBool (bif b then (.bool true) else undef) fun b_2 =>
  vBool (bif b_2 then (.bool true) else undef) fun c => if c = true then
   (K (.bool false) w)
  else
  J1 [v6] [] w)
  else
  (vBuildSlice Try.prog 41 2 [(0, (.string ⟨#[97]⟩)), (1, (.string ⟨#[98]⟩))] w fun v16 w_2 =>
  CallK Try.prog 10 #[v6, (.int .i64 1), v16] w_2 fun v17 w_3 =>
  vBin (.int .i64) .neq v17 (.int .i64 0) fun v18 =>
  vBool (bif b then (.bool true) else undef) fun b_3 =>
  vBool (bif b_3 then (.bool true) else v18) fun c_2 => if c_2 = true then
   (K (.bool false) w_3)
  else
  J1 [v6] [] w_3))
  else
  (vPtr .eql v6 (.pointer none) w fun v12 =>
  vBool v9 fun b_4 =>
  vBool (bif b_4 then (.bool true) else v12) fun g_3 => if g_3 = true then
  (vBool (bif b_4 then (.bool true) else v12) fun b_5 =>
  vBool (bif b_5 then (.bool true) else undef) fun c_3 => if c_3 = true then
   (K (.bool false) w)
  else
  J1 [v6] [] w)
  else
  (vBuildSlice Try.prog 41 2 [(0, (.string ⟨#[97]⟩)), (1, (.string ⟨#[98]⟩))] w fun v16_2 w_4 =>
  CallK Try.prog 10 #[v6, (.int .i64 1), v16_2] w_4 fun v17_2 w_5 =>
  vBin (.int .i64) .neq v17_2 (.int .i64 0) fun v18_2 =>
  vBool (bif b_4 then (.bool true) else v12) fun b_6 =>
  vBool (bif b_6 then (.bool true) else v18_2) fun c_4 => if c_4 = true then
   (K (.bool false) w_5)
  else
  J1 [v6] [] w_5)))
  (F8J1 K)

def tab8 : Tab := { sel := [], plan := [], join := [(7, [1]), (4, [1])] }

theorem F8_eq (w : World) (K : Value → World → Prop) : enterV Try.prog tab8 Try.f8 [] w K = F8 w K := by kernel_rfl

theorem F8_ok {w : World} {K : Value → World → Prop} (h : F8 w K) : Ret Try.prog 8 #[] w K :=
  enter_sound (T := tab8) (args := []) Try.func8 Try.call8 mixed (by kernel_rfl) (by rw [F8_eq]; exact h)

/-- gatehouse/pages.New -/
def F9 (t0 : Value) (w : World) (K : Value → World → Prop) : Prop :=
  vBuild Try.prog 60 [] fun v6 =>
  vBox 60 v6 w fun v7 w =>
  CallK Try.prog 12 #[v7, t0] w fun v10 w_2 =>
  vBin (.int .i64) .neq v10 (.int .i64 0) fun v12 =>
  vBool v12 fun c => if c = true then
   (K (.tuple #[(.pointer none), v10]) w_2)
  else
  K (.tuple #[v7, (.int .i64 0)]) w_2

def tab9 : Tab := { sel := [], plan := [], join := [] }

theorem F9_eq (t0 : Value) (w : World) (K : Value → World → Prop) : enterV Try.prog tab9 Try.f9 [t0] w K = F9 t0 w K := by kernel_rfl

theorem F9_ok {t0 : Value} {w : World} {K : Value → World → Prop} (h : F9 t0 w K) : Ret Try.prog 9 #[t0] w K :=
  enter_sound (T := tab9) (args := [t0]) Try.func9 Try.call9 mixed (by kernel_rfl) (by rw [F9_eq]; exact h)

def F10R1a (r : Option Nat) (ρ : Env) (w : World) (Q : QV) : Prop :=
  vAlloc Try.prog 65 w fun v10 w_7 =>
  vSt (some 2) v10 (ρ 26) w_7 fun w_8 =>
  Q .normal (put (put ρ (some 9) (ρ 25)) (some 10) v10) [] w_8

def F10R1b (r : Option Nat) (ρ : Env) (w : World) (Q1 : Exit → World → Prop) : Prop :=
  drawF w fun S =>
  vLdS S .one (ρ 7) fun v27 =>
  vLdS S .one (ρ 3) fun v28 =>
  vIA (.arr 2 1) (ρ 10) (.int .i64 0) fun v32 =>
  vLdS S .one v32 fun v33 =>
  vIA (.arr 2 1) (ρ 10) (.int .i64 1) fun v34 =>
  vLdS S .one v34 fun v35 =>
  vLdS S .one (ρ 7) fun v37 =>
  (CallK Try.prog 26 #[v28, (ρ 9)] w.drew fun v30 w_7 =>
  S w_7 ∧ (vNil v30 fun v31 =>
  vSlice (.arr 64 1) v31 (some v33) (some v35) fun v36 =>
  (vCopy Try.prog 38 v36 v37 w_7 fun v38 w_8 =>
  S w_8 ∧ (vSlice .string v27 (some v38) none fun v39 =>
  (vSt (some 1) (ρ 7) v39 w_8 fun w_9 =>
  (Q1 .normal w_9)) ∧
  (True))) ∧
  (True))) ∧
  (True)

/-- (*gatehouse/pages.Bytes).Write -/
def F10 (t0 : Value) (t1 : Value) (t2 : Value) (w : World) (K : Value → World → Prop) : Prop :=
  vBox 24 t0 w fun v3 w =>
  CallK Try.prog 23 #[t2, (.string ⟨#[]⟩)] w fun v12 w_2 =>
  vAlloc Try.prog 9 w_2 fun v7 w_3 =>
  vSt (some 1) v7 v12 w_3 fun w_4 =>
  vLd .one v3 w_4 fun v13 =>
  vLd .one v7 w_4 fun v15 =>
  vLen .string v15 fun v16 =>
  CallK Try.prog 24 #[v13, t1, v16] w_4 fun v17 w_5 =>
  vBin (.int .i64) .neq v17 (.int .i64 0) fun v19 =>
  vBool v19 fun c => if c = true then
   (K v17 w_5)
  else
  vLd .one v7 w_5 fun v22 =>
  vLen .string v22 fun v23 =>
  CallK Try.prog 25 #[t1, v23] w_5 fun v24 w_6 =>
  rangeF Try.prog none [3, 7] [v3, v7] [25, 26] F10R1a F10R1b v24 [] w_6
  (fun ds w_10 => leaveV ds w_10 fun W => K (.int .i64 0) W)
  (fun _ _ => False)
  []

def tab10 : Tab := { sel := [(6, [3, 7])], plan := [(8, (.take 0 (.take 1 (.take 2 (.take 5 (.take 6 (.take 7 (.take 8 (.take 10 (.alt 3 (.take 4 (.take 9 (.alt 11 (.take 12 (.alt 13 .done .stop)) .stop))) .stop))))))))))], join := [] }

theorem F10_eq (t0 : Value) (t1 : Value) (t2 : Value) (w : World) (K : Value → World → Prop) : enterV Try.prog tab10 Try.f10 [t0, t1, t2] w K = F10 t0 t1 t2 w K := by kernel_rfl

theorem F10_ok {t0 : Value} {t1 : Value} {t2 : Value} {w : World} {K : Value → World → Prop} (h : F10 t0 t1 t2 w K) : Ret Try.prog 10 #[t0, t1, t2] w K :=
  enter_sound (T := tab10) (args := [t0, t1, t2]) Try.func10 Try.call10 mixed (by kernel_rfl) (by rw [F10_eq]; exact h)

def F11R1a (r : Option Nat) (ρ : Env) (w : World) (Q : QV) : Prop :=
  vAlloc Try.prog 65 w fun v11 w_5 =>
  vSt (some 2) v11 (ρ 23) w_5 fun w_6 =>
  Q .normal (put (put ρ (some 10) (ρ 22)) (some 11) v11) [] w_6

def F11R1b (r : Option Nat) (ρ : Env) (w : World) (Q1 : Exit → World → Prop) : Prop :=
  drawF w fun S =>
  vLdS S .one (ρ 3) fun v24 =>
  vNil v24 fun v25 =>
  vFA (some 1) v25 fun v26 =>
  vLdS S .one v26 fun v27 =>
  vIA (.slice 1) v27 (ρ 10) fun v29 =>
  vLdS S .one v29 fun v30 =>
  vNil v30 fun v31 =>
  vIA (.arr 2 1) (ρ 11) (.int .i64 0) fun v32 =>
  vLdS S .one v32 fun v33 =>
  vIA (.arr 2 1) (ρ 11) (.int .i64 1) fun v34 =>
  vLdS S .one v34 fun v35 =>
  vSlice (.arr 64 1) v31 (some v33) (some v35) fun v36 =>
  (CallK Try.prog 27 #[(ρ 9), v36] w.drew fun v37 w_5 =>
  S w_5 ∧ (Q1 .normal w_5)) ∧
  (True)

/-- (*gatehouse/pages.Bytes).Read -/
def F11 (t0 : Value) (t1 : Value) (t2 : Value) (w : World) (K : Value → World → Prop) : Prop :=
  vBox 24 t0 w fun v3 w =>
  vLd .one v3 w fun v12 =>
  CallK Try.prog 24 #[v12, t1, t2] w fun v15 w_2 =>
  vBin (.int .i64) .neq v15 (.int .i64 0) fun v17 =>
  vBool v17 fun c => if c = true then
   (K (.tuple #[(.string ⟨#[]⟩), v15]) w_2)
  else
  vAlloc Try.prog 70 w_2 fun v9 w_3 =>
  CallK Try.prog 25 #[t1, t2] w_3 fun v21 w_4 =>
  rangeF Try.prog none [3, 9] [v3, v9] [22, 23] F11R1a F11R1b v21 [] w_4
  (fun ds w_6 => CallK Try.prog 28 #[v9] w_6 fun v38 w_7 =>
  leaveV ds w_7 fun W => K (.tuple #[v38, (.int .i64 0)]) W)
  (fun _ _ => False)
  []

def tab11 : Tab := { sel := [(6, [3, 9])], plan := [(8, (.take 0 (.take 1 (.take 2 (.take 3 (.take 4 (.take 5 (.take 6 (.take 7 (.take 8 (.take 9 (.take 10 (.take 11 (.take 12 (.alt 13 .done .stop)))))))))))))))], join := [] }

theorem F11_eq (t0 : Value) (t1 : Value) (t2 : Value) (w : World) (K : Value → World → Prop) : enterV Try.prog tab11 Try.f11 [t0, t1, t2] w K = F11 t0 t1 t2 w K := by kernel_rfl

theorem F11_ok {t0 : Value} {t1 : Value} {t2 : Value} {w : World} {K : Value → World → Prop} (h : F11 t0 t1 t2 w K) : Ret Try.prog 11 #[t0, t1, t2] w K :=
  enter_sound (T := tab11) (args := [t0, t1, t2]) Try.func11 Try.call11 mixed (by kernel_rfl) (by rw [F11_eq]; exact h)

def F12R1a (r : Option Nat) (ρ : Env) (w : World) (Q : QV) : Prop :=
  vAlloc Try.prog 65 w fun v6 w_3 =>
  vSt (some 2) v6 (ρ 32) w_3 fun w_4 =>
  Q .normal (put (put ρ (some 5) (ρ 31)) (some 6) v6) [] w_4

def F12R1b (r : Option Nat) (ρ : Env) (w : World) (Q1 : Exit → World → Prop) : Prop :=
  vIA (.arr 2 1) (ρ 6) (.int .i64 0) fun v33 =>
  vLd .one v33 w fun v34 =>
  vBin (.int .i64) .gtr v34 (.int .i64 0) fun v35 =>
  vBool v35 fun c_2 => if c_2 = true then
   (drawF w fun S =>
   vLdS S .one (ρ 2) fun v36 =>
   vIA (.arr 2 1) (ρ 6) (.int .i64 0) fun v40 =>
   vLdS S .one v40 fun v41 =>
   vIA (.arr 2 1) (ρ 6) (.int .i64 1) fun v42 =>
   vLdS S .one v42 fun v43 =>
   (CallK Try.prog 26 #[v36, (ρ 5)] w.drew fun v38 w_3 =>
   S w_3 ∧ (vNil v38 fun v39 =>
   vSlice (.arr 64 1) v39 (some v41) (some v43) fun v44 =>
   (vClear Try.prog 38 v44 w_3 fun z w_4 =>
   S w_4 ∧ (Q1 .normal w_4)) ∧
   (True))) ∧
   (True))
  else
  Q1 .normal w

def F12L1 (K : Value → World → Prop) (ρ : Env) (ds : List Nat) (w : World) (ag1 : List Value → List Nat → World → Prop) : Prop :=
  drawF w fun S =>
  vLdS S .one (ρ 2) fun v49 =>
  vNil v49 fun v50 =>
  vFA (some 1) v50 fun v51 =>
  vLdS S .one v51 fun v52 =>
  vLen (.slice 1) v52 fun v53 =>
  vLdS S .one (ρ 2) fun v54 =>
  (CallK Try.prog 22 #[v54] w.drew fun v55 w_3 =>
  S w_3 ∧ (vBin (.int .i64) .lss v53 v55 fun v56 =>
  vBool v56 fun c => if c = true then
   (drawF2 w_3 fun S_2 T =>
  vLdS S_2 .one (ρ 2) fun v57 =>
  vLdS (fun w => S_2 w ∨ T w) .one (ρ 2) fun v58 =>
  vLdS S_2 .one (ρ 2) fun v59 =>
  vNil v59 fun v60 =>
  vFA (some 1) v60 fun v61 =>
  vLdS S_2 .one v61 fun v62 =>
  vLdS (fun w => S_2 w ∨ T w) .one (ρ 2) fun v66 =>
  vNil v66 fun v67 =>
  vFA (some 2) v67 fun v68 =>
  vLdS S_2 .one v68 fun v69 =>
  (CallK Try.prog 29 #[] w_3.drew fun v63 w_4 =>
  S_2 w_4 ∧ ((vBuildSlice Try.prog 57 1 [(0, v63)] w_4 fun v64 w_5 =>
  S_2 w_5 ∧ ((vAppend Try.prog 57 57 v62 v64 w_5 fun v65 w_6 =>
  S_2 w_6 ∧ ((vBuildSlice Try.prog 58 1 [(0, (.bool true))] w_6 fun v70 w_7 =>
  S_2 w_7 ∧ ((vAppend Try.prog 58 58 v69 v70 w_7 fun v71 w_8 =>
  S_2 w_8 ∧ (vNil v57 fun v72 =>
  vFA (some 1) v72 fun v73 =>
  (vSt (some 1) v73 v65 w_8 fun w_9 =>
  T w_9 ∧ (vNil v58 fun v74 =>
  vFA (some 2) v74 fun v75 =>
  (vSt (some 1) v75 v71 w_9 fun w_10 =>
  (ag1 [(ρ 2)] ds w_10)) ∧
  (True))) ∧
  (True))) ∧
  (True))) ∧
  (True))) ∧
  ((vBuildSlice Try.prog 58 1 [(0, (.bool true))] w_5 fun v70_2 w_11 =>
  S_2 w_11 ∧ ((vAppend Try.prog 57 57 v62 v64 w_11 fun v65_2 w_12 =>
  S_2 w_12 ∧ ((vAppend Try.prog 58 58 v69 v70_2 w_12 fun v71_2 w_13 =>
  S_2 w_13 ∧ (vNil v57 fun v72_2 =>
  vFA (some 1) v72_2 fun v73_2 =>
  (vSt (some 1) v73_2 v65_2 w_13 fun w_14 =>
  T w_14 ∧ (vNil v58 fun v74_2 =>
  vFA (some 2) v74_2 fun v75_2 =>
  (vSt (some 1) v75_2 v71_2 w_14 fun w_15 =>
  (ag1 [(ρ 2)] ds w_15)) ∧
  (True))) ∧
  (True))) ∧
  (True))) ∧
  (True))) ∧
  (True)))) ∧
  ((vBuildSlice Try.prog 58 1 [(0, (.bool true))] w_4 fun v70_3 w_16 =>
  S_2 w_16 ∧ ((vBuildSlice Try.prog 57 1 [(0, v63)] w_16 fun v64_2 w_17 =>
  S_2 w_17 ∧ ((vAppend Try.prog 57 57 v62 v64_2 w_17 fun v65_3 w_18 =>
  S_2 w_18 ∧ ((vAppend Try.prog 58 58 v69 v70_3 w_18 fun v71_3 w_19 =>
  S_2 w_19 ∧ (vNil v57 fun v72_3 =>
  vFA (some 1) v72_3 fun v73_3 =>
  (vSt (some 1) v73_3 v65_3 w_19 fun w_20 =>
  T w_20 ∧ (vNil v58 fun v74_3 =>
  vFA (some 2) v74_3 fun v75_3 =>
  (vSt (some 1) v75_3 v71_3 w_20 fun w_21 =>
  (ag1 [(ρ 2)] ds w_21)) ∧
  (True))) ∧
  (True))) ∧
  (True))) ∧
  (True))) ∧
  (True))) ∧
  (True)))) ∧
  ((vBuildSlice Try.prog 58 1 [(0, (.bool true))] w_3.drew fun v70_4 w_22 =>
  S_2 w_22 ∧ ((CallK Try.prog 29 #[] w_22 fun v63_2 w_23 =>
  S_2 w_23 ∧ ((vBuildSlice Try.prog 57 1 [(0, v63_2)] w_23 fun v64_3 w_24 =>
  S_2 w_24 ∧ ((vAppend Try.prog 57 57 v62 v64_3 w_24 fun v65_4 w_25 =>
  S_2 w_25 ∧ ((vAppend Try.prog 58 58 v69 v70_4 w_25 fun v71_4 w_26 =>
  S_2 w_26 ∧ (vNil v57 fun v72_4 =>
  vFA (some 1) v72_4 fun v73_4 =>
  (vSt (some 1) v73_4 v65_4 w_26 fun w_27 =>
  T w_27 ∧ (vNil v58 fun v74_4 =>
  vFA (some 2) v74_4 fun v75_4 =>
  (vSt (some 1) v75_4 v71_4 w_27 fun w_28 =>
  (ag1 [(ρ 2)] ds w_28)) ∧
  (True))) ∧
  (True))) ∧
  (True))) ∧
  (True))) ∧
  (True))) ∧
  (True))) ∧
  (True)))
  else
  drawF2 w_3 fun S_3 T_2 =>
  vLdS S_3 .one (ρ 2) fun v76 =>
  vLdS (fun w => S_3 w ∨ T_2 w) .one (ρ 2) fun v77 =>
  vLdS S_3 .one (ρ 2) fun v78 =>
  vNil v78 fun v79 =>
  vFA (some 1) v79 fun v80 =>
  vLdS S_3 .one v80 fun v81 =>
  vLdS S_3 .one (ρ 2) fun v82 =>
  vLdS (fun w => S_3 w ∨ T_2 w) .one (ρ 2) fun v85 =>
  vNil v85 fun v86 =>
  vFA (some 2) v86 fun v87 =>
  vLdS S_3 .one v87 fun v88 =>
  vLdS (fun w => S_3 w ∨ T_2 w) .one (ρ 2) fun v89 =>
  (CallK Try.prog 22 #[v82] w_3.drew fun v83 w_29 =>
  S_3 w_29 ∧ (vSlice (.slice 1) v81 none (some v83) fun v84 =>
  (CallK Try.prog 22 #[v89] w_29 fun v90 w_30 =>
  S_3 w_30 ∧ (vSlice (.slice 1) v88 none (some v90) fun v91 =>
  vNil v76 fun v92 =>
  vFA (some 1) v92 fun v93 =>
  (vSt (some 1) v93 v84 w_30 fun w_31 =>
  T_2 w_31 ∧ (vNil v77 fun v94 =>
  vFA (some 2) v94 fun v95 =>
  (vSt (some 1) v95 v91 w_31 fun w_32 =>
  (leaveV ds w_32 fun W => K (.int .i64 0) W)) ∧
  (True))) ∧
  (True))) ∧
  (True))) ∧
  (True))) ∧
  (True)

def F12J2 (K : Value → World → Prop) (ρ : Env) (ds : List Nat) (w : World) : Prop :=
  vLd .one (ρ 2) w fun v45 =>
  vNil v45 fun v47 =>
  vFA (some 0) v47 fun v48 =>
  vSt (some 1) v48 (ρ 1) w fun w_2 =>
  loopF [2] [(ρ 2)] ds w_2 (F12L1 K)

def F12J1 (K : Value → World → Prop) (ρ : Env) (ds : List Nat) (w : World) : Prop :=
  joinF [1, 2] (fun J2 =>
  vLd .one (ρ 2) w fun v18 =>
  vNil v18 fun v19 =>
  vFA (some 0) v19 fun v20 =>
  vLd .one v20 w fun v21 =>
  vBin (.int .i64) .lss (ρ 1) v21 fun v22 =>
  vBool v22 fun c => if c = true then
   (vLd .one (ρ 2) w fun v24 =>
   vNil v24 fun v25 =>
   vFA (some 0) v25 fun v26 =>
   vLd .one v26 w fun v27 =>
   vBin (.int .i64) .sub v27 (ρ 1) fun v29 =>
   CallK Try.prog 25 #[(ρ 1), v29] w fun v30 w_2 =>
   rangeF Try.prog none [2] [(ρ 2)] [31, 32] F12R1a F12R1b v30 ds w_2
   (fun ds w_5 => J2 [(ρ 1), (ρ 2)] ds w_5)
   (fun _ _ => False)
   [])
  else
  J2 [(ρ 1), (ρ 2)] ds w)
  (F12J2 K)

/-- (*gatehouse/pages.Bytes).Resize -/
def F12 (t0 : Value) (t1 : Value) (w : World) (K : Value → World → Prop) : Prop :=
  vBox 24 t0 w fun v2 w =>
  joinF [1, 2, 5, 6] (fun J1 =>
  vLd .one v2 w fun v8 =>
  vPtr .eql v8 (.pointer none) w fun v9 =>
  vBool v9 fun c => if c = true then
   (K (.int .i64 4) w)
  else
  vBin (.int .i64) .lss t1 (.int .i64 0) fun v12 =>
  vBool v12 fun g => if g = true then
  (vBool v12 fun b =>
  vBool (bif b then (.bool true) else undef) fun c_2 => if c_2 = true then
   (K (.int .i64 1) w)
  else
  J1 [t1, v2, undef, undef] [] w)
  else
  (vBin (.int .i64) .gtr t1 (.int .i64 4096) fun v15 =>
  vBool v12 fun b_2 =>
  vBool (bif b_2 then (.bool true) else v15) fun c_3 => if c_3 = true then
   (K (.int .i64 1) w)
  else
  J1 [t1, v2, undef, undef] [] w))
  (F12J1 K)

def tab12 : Tab := { sel := [(12, [2]), (7, [2])], plan := [(10, (.take 0 (.take 1 (.take 4 (.take 5 (.take 6 (.take 7 (.alt 2 (.take 3 (.take 8 (.alt 9 .done .stop))) .stop)))))))), (12, (.take 0 (.take 1 (.take 2 (.take 3 (.take 4 (.take 5 (.alt 6 (.take 7 .done) .stop)))))))), (13, (.take 0 (.take 1 (.take 2 (.take 3 (.take 4 (.take 5 (.take 9 (.take 10 (.take 11 (.take 12 (.alt 6 (.alt 7 (.alt 8 (.alt 13 (.alt 14 (.take 15 (.take 16 (.alt 17 (.take 18 (.take 19 (.alt 20 .done .stop))) .stop))) .stop) .stop) (.alt 13 (.alt 8 (.alt 14 (.take 15 (.take 16 (.alt 17 (.take 18 (.take 19 (.alt 20 .done .stop))) .stop))) .stop) .stop) .stop)) (.alt 13 (.alt 7 (.alt 8 (.alt 14 (.take 15 (.take 16 (.alt 17 (.take 18 (.take 19 (.alt 20 .done .stop))) .stop))) .stop) .stop) .stop) .stop)) (.alt 13 (.alt 6 (.alt 7 (.alt 8 (.alt 14 (.take 15 (.take 16 (.alt 17 (.take 18 (.take 19 (.alt 20 .done .stop))) .stop))) .stop) .stop) .stop) .stop) .stop))))))))))))), (14, (.take 0 (.take 1 (.take 2 (.take 3 (.take 4 (.take 5 (.take 6 (.take 9 (.take 10 (.take 11 (.take 12 (.take 13 (.alt 7 (.take 8 (.alt 14 (.take 15 (.take 16 (.take 17 (.alt 18 (.take 19 (.take 20 (.alt 21 .done .stop))) .stop)))) .stop)) .stop))))))))))))))], join := [(11, [1, 2]), (5, [1, 2, 5, 6])] }

theorem F12_eq (t0 : Value) (t1 : Value) (w : World) (K : Value → World → Prop) : enterV Try.prog tab12 Try.f12 [t0, t1] w K = F12 t0 t1 w K := by kernel_rfl

theorem F12_ok {t0 : Value} {t1 : Value} {w : World} {K : Value → World → Prop} (h : F12 t0 t1 w K) : Ret Try.prog 12 #[t0, t1] w K :=
  enter_sound (T := tab12) (args := [t0, t1]) Try.func12 Try.call12 mixed (by kernel_rfl) (by rw [F12_eq]; exact h)

/-- (*gatehouse/pages.Bytes).Len -/
def F13 (t0 : Value) (w : World) (K : Value → World → Prop) : Prop :=
  vPtr .eql t0 (.pointer none) w fun v4 =>
  vBool v4 fun c => if c = true then
   (K (.int .i64 0) w)
  else
  vNil t0 fun v6 =>
  vFA (some 0) v6 fun v7 =>
  vLd .one v7 w fun v8 =>
  K v8 w

def tab13 : Tab := { sel := [], plan := [], join := [] }

theorem F13_eq (t0 : Value) (w : World) (K : Value → World → Prop) : enterV Try.prog tab13 Try.f13 [t0] w K = F13 t0 w K := by kernel_rfl

theorem F13_ok {t0 : Value} {w : World} {K : Value → World → Prop} (h : F13 t0 w K) : Ret Try.prog 13 #[t0] w K :=
  enter_sound (T := tab13) (args := [t0]) Try.func13 Try.call13 mixed (by kernel_rfl) (by rw [F13_eq]; exact h)

/-- gatehouse/gatehouseref03.Size -/
def F14 (t0 : Value) (w : World) (K : Value → World → Prop) : Prop :=
  vBin (.int .i64) .geq t0 (.int .i64 0) fun v4 =>
  vBool v4 fun g => if g = true then
  (vBin (.int .i64) .leq t0 (.int .i64 4096) fun v7 =>
  vBool v4 fun b =>
  K (bif b then v7 else (.bool false)) w)
  else
  (vBool v4 fun b_2 =>
  K (bif b_2 then undef else (.bool false)) w)

def tab14 : Tab := { sel := [], plan := [], join := [] }

theorem F14_eq (t0 : Value) (w : World) (K : Value → World → Prop) : enterV Try.prog tab14 Try.f14 [t0] w K = F14 t0 w K := by kernel_rfl

theorem F14_ok {t0 : Value} {w : World} {K : Value → World → Prop} (h : F14 t0 w K) : Ret Try.prog 14 #[t0] w K :=
  enter_sound (T := tab14) (args := [t0]) Try.func14 Try.call14 mixed (by kernel_rfl) (by rw [F14_eq]; exact h)

/-- (*gatehouse/pages.Bytes).Copy -/
def F15 (t0 : Value) (w : World) (K : Value → World → Prop) : Prop :=
  vPtr .eql t0 (.pointer none) w fun v4 =>
  vBool v4 fun c => if c = true then
   (K (.pointer none) w)
  else
  vNil t0 fun v6 =>
  vFA (some 2) v6 fun v7 =>
  vLd .one v7 w fun v8 =>
  vClear Try.prog 58 v8 w fun z w =>
  drawF w fun S =>
  vNil t0 fun v10 =>
  vFA (some 0) v10 fun v11 =>
  vLdS S .one v11 fun v12 =>
  vNil t0 fun v15 =>
  vFA (some 1) v15 fun v16 =>
  vLdS S .one v16 fun v17 =>
  vNil t0 fun v20 =>
  vFA (some 1) v20 fun v21 =>
  vLdS S .one v21 fun v22 =>
  vLen (.slice 1) v22 fun v23 =>
  (vBuildSlice Try.prog 57 0 [] w.drew fun v13 w_2 =>
  S w_2 ∧ ((vAppend Try.prog 57 57 v13 v17 w_2 fun v18 w_3 =>
  S w_3 ∧ ((vMakeSlice Try.prog 58 v23 v23 w_3 fun v24 w_4 =>
  S w_4 ∧ (vBuild Try.prog 60 [(0, v12), (1, v18), (2, v24)] fun v25 =>
  (vBox 60 v25 w_4 fun v26 w_5 =>
  S w_5 ∧ (K v26 w_5)) ∧
  (True))) ∧
  (True))) ∧
  ((vMakeSlice Try.prog 58 v23 v23 w_2 fun v24_2 w_6 =>
  S w_6 ∧ ((vAppend Try.prog 57 57 v13 v17 w_6 fun v18_2 w_7 =>
  S w_7 ∧ (vBuild Try.prog 60 [(0, v12), (1, v18_2), (2, v24_2)] fun v25_2 =>
  (vBox 60 v25_2 w_7 fun v26_2 w_8 =>
  S w_8 ∧ (K v26_2 w_8)) ∧
  (True))) ∧
  (True))) ∧
  (True)))) ∧
  ((vMakeSlice Try.prog 58 v23 v23 w.drew fun v24_3 w_9 =>
  S w_9 ∧ ((vBuildSlice Try.prog 57 0 [] w_9 fun v13_2 w_10 =>
  S w_10 ∧ ((vAppend Try.prog 57 57 v13_2 v17 w_10 fun v18_3 w_11 =>
  S w_11 ∧ (vBuild Try.prog 60 [(0, v12), (1, v18_3), (2, v24_3)] fun v25_3 =>
  (vBox 60 v25_3 w_11 fun v26_3 w_12 =>
  S w_12 ∧ (K v26_3 w_12)) ∧
  (True))) ∧
  (True))) ∧
  (True))) ∧
  (True))

def tab15 : Tab := { sel := [], plan := [(4, (.take 0 (.take 1 (.take 2 (.take 3 (.take 5 (.take 6 (.take 7 (.take 8 (.take 10 (.take 11 (.take 12 (.take 13 (.take 14 (.alt 4 (.alt 9 (.alt 15 (.take 16 (.alt 17 (.take 18 .done) .stop)) .stop) (.alt 15 (.alt 9 (.take 16 (.alt 17 (.take 18 .done) .stop)) .stop) .stop)) (.alt 15 (.alt 4 (.alt 9 (.take 16 (.alt 17 (.take 18 .done) .stop)) .stop) .stop) .stop))))))))))))))))], join := [] }

theorem F15_eq (t0 : Value) (w : World) (K : Value → World → Prop) : enterV Try.prog tab15 Try.f15 [t0] w K = F15 t0 w K := by kernel_rfl

theorem F15_ok {t0 : Value} {w : World} {K : Value → World → Prop} (h : F15 t0 w K) : Ret Try.prog 15 #[t0] w K :=
  enter_sound (T := tab15) (args := [t0]) Try.func15 Try.call15 mixed (by kernel_rfl) (by rw [F15_eq]; exact h)

/-- gatehouse/gatehouselaw03.step -/
def F16 (t0 : Value) (t1 : Value) (t2 : Value) (w : World) (K : Value → World → Prop) : Prop :=
  vBox 44 t2 w fun v5 w =>
  vFA (some 0) v5 fun v24 =>
  vLd .one v24 w fun v25 =>
  vBin (.int .i64) .eql v25 (.int .i64 1) fun v27 =>
  vBool v27 fun c => if c = true then
   (vFA (some 1) v5 fun v30 =>
   vLd .one v30 w fun v31 =>
   vFA (some 2) v5 fun v32 =>
   vLd .one v32 w fun v33 =>
   CallK Try.prog 11 #[t0, v31, v33] w fun v34 w_2 =>
   vExt v34 0 fun v35 =>
   vExt v34 1 fun v36 =>
   vFA (some 1) v5 fun v39 =>
   vLd .one v39 w_2 fun v40 =>
   vFA (some 2) v5 fun v41 =>
   vLd .one v41 w_2 fun v42 =>
   CallK Try.prog 30 #[t1, v40, v42] w_2 fun v43 w_3 =>
   vExt v43 0 fun v44 =>
   vExt v43 1 fun v45 =>
   vBin .string .eql v35 v44 fun v49 =>
   vBool v49 fun g => if g = true then
   (vBin (.int .i64) .eql v36 v45 fun v53 =>
   vBool v49 fun b =>
   K (.tuple #[t1, (bif b then v53 else (.bool false))]) w_3)
   else
   (vBool v49 fun b_2 =>
   K (.tuple #[t1, (bif b_2 then undef else (.bool false))]) w_3))
  else
  vBin (.int .i64) .eql v25 (.int .i64 2) fun v56 =>
  vBool v56 fun c_2 => if c_2 = true then
   (vBuildSlice Try.prog 41 0 [] w fun v57 w_4 =>
   vFA (some 3) v5 fun v58 =>
   vLd .one v58 w_4 fun v59 =>
   vAppend Try.prog 41 41 v57 v59 w_4 fun v60 w_5 =>
   vBuildSlice Try.prog 41 1 [(0, (.string ⟨#[115, 112, 97, 114, 101]⟩))] w_5 fun v61 w_6 =>
   vAppend Try.prog 41 41 v60 v61 w_6 fun v62 w_7 =>
   drawF w_7 fun S =>
   vFA (some 1) v5 fun v64 =>
   vLdS S .one v64 fun v65 =>
   vFA (some 3) v5 fun v67 =>
   vLdS S .one v67 fun v68 =>
   vLen (.slice 1) v68 fun v69 =>
   vSlice (.slice 1) v62 none (some v69) fun v70 =>
   (CallK Try.prog 10 #[t0, v65, v70] w_7.drew fun v71 w_8 =>
   S w_8 ∧ (drawF w_8 fun S_2 =>
   vFA (some 1) v5 fun v74 =>
   vLdS S_2 .one v74 fun v75 =>
   vFA (some 3) v5 fun v76 =>
   vLdS S_2 .one v76 fun v77 =>
   (CallK Try.prog 32 #[v77] w_8.drew fun v78 w_9 =>
   S_2 w_9 ∧ ((CallK Try.prog 31 #[t1, v75, v78] w_9 fun v79 w_10 =>
   S_2 w_10 ∧ (vExt v79 0 fun v80 =>
   vExt v79 1 fun v81 =>
   drawF w_10 fun S_3 =>
   vBin (.int .i64) .eql v71 v81 fun v85 =>
   vBool v85 fun g_2 => if g_2 = true then
   (vFA (some 3) v5 fun v88 =>
   vLdS S_3 .one v88 fun v89 =>
   vLen (.slice 1) v89 fun v90 =>
   vIA (.slice 1) v62 v90 fun v91 =>
   vLdS S_3 .one v91 fun v92 =>
   vBin .string .eql v92 (.string ⟨#[115, 112, 97, 114, 101]⟩) fun v93 =>
   vBool v85 fun b_3 =>
   K (.tuple #[v80, (bif b_3 then v93 else (.bool false))]) w_10.drew)
   else
   (vBool v85 fun b_4 =>
   K (.tuple #[v80, (bif b_4 then undef else (.bool false))]) w_10.drew))) ∧
   (True))) ∧
   (True))) ∧
   (True))
  else
  vBin (.int .i64) .eql v25 (.int .i64 3) fun v96 =>
  vBool v96 fun c_3 => if c_3 = true then
   (vFA (some 2) v5 fun v99 =>
   vLd .one v99 w fun v100 =>
   CallK Try.prog 33 #[t1, v100] w fun v101 w_11 =>
   vExt v101 0 fun v102 =>
   vExt v101 1 fun v103 =>
   vFA (some 2) v5 fun v106 =>
   vLd .one v106 w_11 fun v107 =>
   CallK Try.prog 12 #[t0, v107] w_11 fun v108 w_12 =>
   vBin (.int .i64) .eql v108 v103 fun v110 =>
   K (.tuple #[v102, v110]) w_12)
  else
  vBin (.int .i64) .eql v25 (.int .i64 4) fun v112 =>
  vBool v112 fun c_4 => if c_4 = true then
   (vFA (some 1) v5 fun v115 =>
   vLd .one v115 w fun v116 =>
   CallK Try.prog 21 #[t0, v116] w fun v117 w_13 =>
   vExt v117 0 fun v118 =>
   vExt v117 1 fun v119 =>
   vFA (some 1) v5 fun v122 =>
   vLd .one v122 w_13 fun v123 =>
   CallK Try.prog 34 #[t1, v123] w_13 fun v124 w_14 =>
   vExt v124 0 fun v125 =>
   vExt v124 1 fun v126 =>
   vBin (.int .u64) .eql v118 v125 fun v130 =>
   vBool v130 fun g_3 => if g_3 = true then
   (vBin (.int .i64) .eql v119 v126 fun v134 =>
   vBool v130 fun b_5 =>
   K (.tuple #[t1, (bif b_5 then v134 else (.bool false))]) w_14)
   else
   (vBool v130 fun b_6 =>
   K (.tuple #[t1, (bif b_6 then undef else (.bool false))]) w_14))
  else
  vBin (.int .i64) .eql v25 (.int .i64 5) fun v137 =>
  vBool v137 fun c_5 => if c_5 = true then
   (drawF w fun S_4 =>
   vFA (some 1) v5 fun v140 =>
   vLdS S_4 .one v140 fun v141 =>
   vFA (some 4) v5 fun v142 =>
   vLdS S_4 .one v142 fun v143 =>
   (CallK Try.prog 35 #[v143] w.drew fun v144 w_15 =>
   S_4 w_15 ∧ ((CallK Try.prog 31 #[t1, v141, v144] w_15 fun v145 w_16 =>
   S_4 w_16 ∧ (vExt v145 0 fun v146 =>
   vExt v145 1 fun v147 =>
   vFA (some 1) v5 fun v150 =>
   vLd .one v150 w_16 fun v151 =>
   vFA (some 4) v5 fun v152 =>
   vLd .one v152 w_16 fun v153 =>
   CallK Try.prog 20 #[t0, v151, v153] w_16 fun v154 w_17 =>
   vBin (.int .i64) .eql v154 v147 fun v156 =>
   K (.tuple #[v146, v156]) w_17)) ∧
   (True))) ∧
   (True))
  else
  K (.tuple #[t1, (.bool true)]) w

def tab16 : Tab := { sel := [], plan := [(8, (.take 0 (.take 1 (.take 2 (.take 3 (.take 4 (.take 5 (.take 6 (.take 7 (.alt 8 (.take 9 .done) .stop)))))))))), (9, (.take 0 (.take 1 (.take 2 (.take 3 (.take 4 (.alt 5 (.alt 6 (.take 7 (.take 8 (.take 9 (.take 10 (.take 11 .done))))) .stop) .stop))))))), (10, (.take 0 (.take 1 (.take 2 (.take 3 (.take 4 (.take 5 (.take 6 (.take 7 (.take 8 (.take 9 (.take 10 (.take 11 (.take 12 (.take 13 (.take 14 .done)))))))))))))))), (19, (.take 0 (.take 1 (.take 2 (.take 3 (.take 4 (.alt 5 (.alt 6 (.take 7 (.take 8 (.take 9 (.take 10 (.take 11 .done))))) .stop) .stop)))))))], join := [] }

theorem F16_eq (t0 : Value) (t1 : Value) (t2 : Value) (w : World) (K : Value → World → Prop) : enterV Try.prog tab16 Try.f16 [t0, t1, t2] w K = F16 t0 t1 t2 w K := by kernel_rfl

theorem F16_ok {t0 : Value} {t1 : Value} {t2 : Value} {w : World} {K : Value → World → Prop} (h : F16 t0 t1 t2 w K) : Ret Try.prog 16 #[t0, t1, t2] w K :=
  enter_sound (T := tab16) (args := [t0, t1, t2]) Try.func16 Try.call16 mixed (by kernel_rfl) (by rw [F16_eq]; exact h)

/-- gatehouse/gatehouselaw03.whole -/
def F17 (t0 : Value) (t1 : Value) (w : World) (K : Value → World → Prop) : Prop :=
  vLen (.slice 1) t1 fun v12 =>
  CallK Try.prog 11 #[t0, (.int .i64 0), v12] w fun v13 w =>
  vExt v13 0 fun v14 =>
  vExt v13 1 fun v15 =>
  vLen (.slice 1) t1 fun v19 =>
  vBin (.int .i64) .add v19 (.int .i64 1) fun v20 =>
  CallK Try.prog 11 #[t0, (.int .i64 0), v20] w fun v21 w_2 =>
  vExt v21 0 fun v22 =>
  vExt v21 1 fun v23 =>
  vBin (.int .i64) .eql v15 (.int .i64 0) fun v25 =>
  vBool v25 fun g => if g = true then
  (vB2S t1 w_2 fun v29 =>
  vBin .string .eql v14 v29 fun v30 =>
  vBool v25 fun b =>
  vBool (bif b then v30 else (.bool false)) fun g_2 => if g_2 = true then
  (vBin (.int .i64) .eql v23 (.int .i64 9) fun v34 =>
  vBool (bif b then v30 else (.bool false)) fun b_2 =>
  vBool (bif b_2 then v34 else (.bool false)) fun g_3 => if g_3 = true then
  (CallK Try.prog 13 #[t0] w_2 fun v38 w_3 =>
  vLen (.slice 1) t1 fun v40 =>
  vBin (.int .i64) .eql v38 v40 fun v41 =>
  vBool (bif b_2 then v34 else (.bool false)) fun b_3 =>
  vBool (bif b_3 then v41 else (.bool false)) fun g_4 => if g_4 = true then
  (CallK Try.prog 22 #[t0] w_3 fun v45 w_4 =>
  vLen (.slice 1) t1 fun v47 =>
  vBin (.int .i64) .add v47 (.int .i64 63) fun v48 =>
  vBin (.int .i64) .quo v48 (.int .i64 64) fun v49 =>
  vBin (.int .i64) .eql v45 v49 fun v50 =>
  vBool (bif b_3 then v41 else (.bool false)) fun b_4 =>
  K (bif b_4 then v50 else (.bool false)) w_4)
  else
  (vBool (bif b_3 then v41 else (.bool false)) fun b_5 =>
  K (bif b_5 then undef else (.bool false)) w_3))
  else
  (vBool (bif b_2 then v34 else (.bool false)) fun b_6 =>
  vBool (bif b_6 then undef else (.bool false)) fun g_5 => if g_5 = true then
  (CallK Try.prog 22 #[t0] w_2 fun v45_2 w_5 =>
  vLen (.slice 1) t1 fun v47_2 =>
  vBin (.int .i64) .add v47_2 (.int .i64 63) fun v48_2 =>
  vBin (.int .i64) .quo v48_2 (.int .i64 64) fun v49_2 =>
  vBin (.int .i64) .eql v45_2 v49_2 fun v50_2 =>
  vBool (bif b_6 then undef else (.bool false)) fun b_7 =>
  K (bif b_7 then v50_2 else (.bool false)) w_5)
  else
  (vBool (bif b_6 then undef else (.bool false)) fun b_8 =>
  K (bif b_8 then undef else (.bool false)) w_2)))
  else
  (vBool (bif b then v30 else (.bool false)) fun b_9 =>
  vBool (bif b_9 then undef else (.bool false)) fun g_6 => if g_6 = true then
  (CallK Try.prog 13 #[t0] w_2 fun v38_2 w_6 =>
  vLen (.slice 1) t1 fun v40_2 =>
  vBin (.int .i64) .eql v38_2 v40_2 fun v41_2 =>
  vBool (bif b_9 then undef else (.bool false)) fun b_10 =>
  vBool (bif b_10 then v41_2 else (.bool false)) fun g_7 => if g_7 = true then
  (CallK Try.prog 22 #[t0] w_6 fun v45_3 w_7 =>
  vLen (.slice 1) t1 fun v47_3 =>
  vBin (.int .i64) .add v47_3 (.int .i64 63) fun v48_3 =>
  vBin (.int .i64) .quo v48_3 (.int .i64 64) fun v49_3 =>
  vBin (.int .i64) .eql v45_3 v49_3 fun v50_3 =>
  vBool (bif b_10 then v41_2 else (.bool false)) fun b_11 =>
  K (bif b_11 then v50_3 else (.bool false)) w_7)
  else
  (vBool (bif b_10 then v41_2 else (.bool false)) fun b_12 =>
  K (bif b_12 then undef else (.bool false)) w_6))
  else
  (vBool (bif b_9 then undef else (.bool false)) fun b_13 =>
  vBool (bif b_13 then undef else (.bool false)) fun g_8 => if g_8 = true then
  (CallK Try.prog 22 #[t0] w_2 fun v45_4 w_8 =>
  vLen (.slice 1) t1 fun v47_4 =>
  vBin (.int .i64) .add v47_4 (.int .i64 63) fun v48_4 =>
  vBin (.int .i64) .quo v48_4 (.int .i64 64) fun v49_4 =>
  vBin (.int .i64) .eql v45_4 v49_4 fun v50_4 =>
  vBool (bif b_13 then undef else (.bool false)) fun b_14 =>
  K (bif b_14 then v50_4 else (.bool false)) w_8)
  else
  (vBool (bif b_13 then undef else (.bool false)) fun b_15 =>
  K (bif b_15 then undef else (.bool false)) w_2))))
  else
  (vBool v25 fun b_16 =>
  vBool (bif b_16 then undef else (.bool false)) fun g_9 => if g_9 = true then
  (vBin (.int .i64) .eql v23 (.int .i64 9) fun v34_2 =>
  vBool (bif b_16 then undef else (.bool false)) fun b_17 =>
  vBool (bif b_17 then v34_2 else (.bool false)) fun g_10 => if g_10 = true then
  (CallK Try.prog 13 #[t0] w_2 fun v38_3 w_9 =>
  vLen (.slice 1) t1 fun v40_3 =>
  vBin (.int .i64) .eql v38_3 v40_3 fun v41_3 =>
  vBool (bif b_17 then v34_2 else (.bool false)) fun b_18 =>
  vBool (bif b_18 then v41_3 else (.bool false)) fun g_11 => if g_11 = true then
  (CallK Try.prog 22 #[t0] w_9 fun v45_5 w_10 =>
  vLen (.slice 1) t1 fun v47_5 =>
  vBin (.int .i64) .add v47_5 (.int .i64 63) fun v48_5 =>
  vBin (.int .i64) .quo v48_5 (.int .i64 64) fun v49_5 =>
  vBin (.int .i64) .eql v45_5 v49_5 fun v50_5 =>
  vBool (bif b_18 then v41_3 else (.bool false)) fun b_19 =>
  K (bif b_19 then v50_5 else (.bool false)) w_10)
  else
  (vBool (bif b_18 then v41_3 else (.bool false)) fun b_20 =>
  K (bif b_20 then undef else (.bool false)) w_9))
  else
  (vBool (bif b_17 then v34_2 else (.bool false)) fun b_21 =>
  vBool (bif b_21 then undef else (.bool false)) fun g_12 => if g_12 = true then
  (CallK Try.prog 22 #[t0] w_2 fun v45_6 w_11 =>
  vLen (.slice 1) t1 fun v47_6 =>
  vBin (.int .i64) .add v47_6 (.int .i64 63) fun v48_6 =>
  vBin (.int .i64) .quo v48_6 (.int .i64 64) fun v49_6 =>
  vBin (.int .i64) .eql v45_6 v49_6 fun v50_6 =>
  vBool (bif b_21 then undef else (.bool false)) fun b_22 =>
  K (bif b_22 then v50_6 else (.bool false)) w_11)
  else
  (vBool (bif b_21 then undef else (.bool false)) fun b_23 =>
  K (bif b_23 then undef else (.bool false)) w_2)))
  else
  (vBool (bif b_16 then undef else (.bool false)) fun b_24 =>
  vBool (bif b_24 then undef else (.bool false)) fun g_13 => if g_13 = true then
  (CallK Try.prog 13 #[t0] w_2 fun v38_4 w_12 =>
  vLen (.slice 1) t1 fun v40_4 =>
  vBin (.int .i64) .eql v38_4 v40_4 fun v41_4 =>
  vBool (bif b_24 then undef else (.bool false)) fun b_25 =>
  vBool (bif b_25 then v41_4 else (.bool false)) fun g_14 => if g_14 = true then
  (CallK Try.prog 22 #[t0] w_12 fun v45_7 w_13 =>
  vLen (.slice 1) t1 fun v47_7 =>
  vBin (.int .i64) .add v47_7 (.int .i64 63) fun v48_7 =>
  vBin (.int .i64) .quo v48_7 (.int .i64 64) fun v49_7 =>
  vBin (.int .i64) .eql v45_7 v49_7 fun v50_7 =>
  vBool (bif b_25 then v41_4 else (.bool false)) fun b_26 =>
  K (bif b_26 then v50_7 else (.bool false)) w_13)
  else
  (vBool (bif b_25 then v41_4 else (.bool false)) fun b_27 =>
  K (bif b_27 then undef else (.bool false)) w_12))
  else
  (vBool (bif b_24 then undef else (.bool false)) fun b_28 =>
  vBool (bif b_28 then undef else (.bool false)) fun g_15 => if g_15 = true then
  (CallK Try.prog 22 #[t0] w_2 fun v45_8 w_14 =>
  vLen (.slice 1) t1 fun v47_8 =>
  vBin (.int .i64) .add v47_8 (.int .i64 63) fun v48_8 =>
  vBin (.int .i64) .quo v48_8 (.int .i64 64) fun v49_8 =>
  vBin (.int .i64) .eql v45_8 v49_8 fun v50_8 =>
  vBool (bif b_28 then undef else (.bool false)) fun b_29 =>
  K (bif b_29 then v50_8 else (.bool false)) w_14)
  else
  (vBool (bif b_28 then undef else (.bool false)) fun b_30 =>
  K (bif b_30 then undef else (.bool false)) w_2))))

def tab17 : Tab := { sel := [], plan := [], join := [] }

theorem F17_eq (t0 : Value) (t1 : Value) (w : World) (K : Value → World → Prop) : enterV Try.prog tab17 Try.f17 [t0, t1] w K = F17 t0 t1 w K := by kernel_rfl

theorem F17_ok {t0 : Value} {t1 : Value} {w : World} {K : Value → World → Prop} (h : F17 t0 t1 w K) : Ret Try.prog 17 #[t0, t1] w K :=
  enter_sound (T := tab17) (args := [t0, t1]) Try.func17 Try.call17 mixed (by kernel_rfl) (by rw [F17_eq]; exact h)

def F18L1 (K : Value → World → Prop) (ρ : Env) (ds : List Nat) (w : World) (ag1 : List Value → List Nat → World → Prop) : Prop :=
  vBin (.int .i64) .lss (ρ 14) (ρ 13) fun v15 =>
  vBool v15 fun c => if c = true then
   (vBin (.int .i64) .mul (ρ 14) (.int .i64 64) fun v18 =>
  vBin (.int .i64) .add (ρ 14) (.int .i64 1) fun v20 =>
  vBin (.int .i64) .mul v20 (.int .i64 64) fun v21 =>
  drawF w fun S =>
  vBin (.int .i64) .sub v21 v18 fun v29 =>
  vBin (.int .i64) .sub v21 v18 fun v38 =>
  (CallK Try.prog 13 #[(ρ 0)] w.drew fun v23 w_3 =>
  S w_3 ∧ (vBin (.int .i64) .sub v23 v18 fun v25 =>
  vMax v25 [(.int .i64 0)] fun v26 =>
  vMin v26 [v29] fun v30 =>
  (CallK Try.prog 13 #[(ρ 1)] w_3 fun v32 w_4 =>
  S w_4 ∧ (vBin (.int .i64) .sub v32 v18 fun v34 =>
  vMax v34 [(.int .i64 0)] fun v35 =>
  vMin v35 [v38] fun v39 =>
  vBin (.int .i64) .neq v30 v39 fun v40 =>
  vBool v40 fun g => if g = true then
  (vBool v40 fun b =>
  vBool (bif b then (.bool true) else undef) fun c_2 => if c_2 = true then
   (vBuildSlice Try.prog 32 1 [(0, (ρ 14))] w_4 fun v64 w_5 =>
   vAppend Try.prog 32 32 (ρ 5) v64 w_5 fun v65 w_6 =>
   vBin (.int .i64) .add (ρ 14) (.int .i64 1) fun v66 =>
  ag1 [(ρ 0), (ρ 1), v65, (ρ 13), v66] ds w_6)
  else
  vBin (.int .i64) .add (ρ 14) (.int .i64 1) fun v66_2 =>
  ag1 [(ρ 0), (ρ 1), (ρ 5), (ρ 13), v66_2] ds w_4)
  else
  (vNil (ρ 0) fun v43 =>
  vFA (some 1) v43 fun v44 =>
  vLdS S .one v44 fun v45 =>
  vIA (.slice 1) v45 (ρ 14) fun v47 =>
  vLdS S .one v47 fun v48 =>
  vNil v48 fun v49 =>
  vLdS S (.agg 64) v49 fun v50 =>
  vNil (ρ 1) fun v52 =>
  vFA (some 1) v52 fun v53 =>
  vLdS S .one v53 fun v54 =>
  vIA (.slice 1) v54 (ρ 14) fun v56 =>
  vLdS S .one v56 fun v57 =>
  vNil v57 fun v58 =>
  vLdS S (.agg 64) v58 fun v59 =>
  vAggEq Try.prog 85 .neq v50 v59 fun v60 =>
  vBool v40 fun b_2 =>
  vBool (bif b_2 then (.bool true) else v60) fun c_3 => if c_3 = true then
   (vBuildSlice Try.prog 32 1 [(0, (ρ 14))] w_4 fun v64_2 w_7 =>
   vAppend Try.prog 32 32 (ρ 5) v64_2 w_7 fun v65_2 w_8 =>
   vBin (.int .i64) .add (ρ 14) (.int .i64 1) fun v66_3 =>
  ag1 [(ρ 0), (ρ 1), v65_2, (ρ 13), v66_3] ds w_8)
  else
  vBin (.int .i64) .add (ρ 14) (.int .i64 1) fun v66_4 =>
  ag1 [(ρ 0), (ρ 1), (ρ 5), (ρ 13), v66_4] ds w_4))) ∧
  (True))) ∧
  (True))
  else
  leaveV ds w fun W => K (ρ 5) W

/-- (*gatehouse/pages.Bytes).Unlike -/
def F18 (t0 : Value) (t1 : Value) (w : World) (K : Value → World → Prop) : Prop :=
  CallK Try.prog 22 #[t0] w fun v10 w =>
  CallK Try.prog 22 #[t1] w fun v12 w_2 =>
  vMax v10 [v12] fun v13 =>
  loopF [0, 1, 5, 13, 14] [t0, t1, (.slice none 0 0), v13, (.int .i64 0)] [] w_2 (F18L1 K)

def tab18 : Tab := { sel := [(3, [0, 1, 5, 13, 14])], plan := [(6, (.take 0 (.take 2 (.take 5 (.take 6 (.take 7 (.take 9 (.take 11 (.take 14 (.take 15 (.take 16 (.alt 1 (.take 3 (.take 4 (.take 8 (.alt 10 (.take 12 (.take 13 (.take 17 (.take 18 (.take 19 (.take 20 (.take 21 (.take 22 (.take 23 (.take 24 (.take 25 (.take 26 (.take 27 (.take 28 (.take 29 (.take 30 (.take 31 (.take 32 (.take 33 (.take 34 (.take 35 (.take 36 (.take 37 (.take 38 (.take 39 .done))))))))))))))))))))))))) .stop)))) .stop))))))))))))], join := [] }

theorem F18_eq (t0 : Value) (t1 : Value) (w : World) (K : Value → World → Prop) : enterV Try.prog tab18 Try.f18 [t0, t1] w K = F18 t0 t1 w K := by kernel_rfl

theorem F18_ok {t0 : Value} {t1 : Value} {w : World} {K : Value → World → Prop} (h : F18 t0 t1 w K) : Ret Try.prog 18 #[t0, t1] w K :=
  enter_sound (T := tab18) (args := [t0, t1]) Try.func18 Try.call18 mixed (by kernel_rfl) (by rw [F18_eq]; exact h)

def F19L2 (ag1 : List Value → List Nat → World → Prop) (ρ : Env) (ds : List Nat) (w : World) (ag2 : List Value → List Nat → World → Prop) : Prop :=
  vBin (.int .i64) .mul (.int .i64 64) (ρ 6) fun v18 =>
  vBin (.int .i64) .add v18 (.int .i64 64) fun v19 =>
  vBin (.int .i64) .lss (ρ 8) v19 fun v20 =>
  vBool v20 fun c_2 => if c_2 = true then
   (drawF w fun S =>
  vLen (.slice 1) (ρ 0) fun v25 =>
  vBin (.int .i64) .lss (ρ 8) v25 fun v26 =>
  vLen (.slice 1) (ρ 1) fun v29 =>
  vBin (.int .i64) .lss (ρ 8) v29 fun v30 =>
  vBin .bool .neq v26 v30 fun v31 =>
  vBool v31 fun g => if g = true then
  (vBool v31 fun b =>
  vBool (bif b then (.bool true) else undef) fun c_3 => if c_3 = true then
   (vBin (.int .i64) .add (ρ 8) (.int .i64 1) fun v22 =>
  ag2 [(ρ 0), (ρ 1), (ρ 5), (ρ 6), (.bool true), v22] ds w.drew)
  else
  vBin (.int .i64) .add (ρ 8) (.int .i64 1) fun v22_2 =>
  ag2 [(ρ 0), (ρ 1), (ρ 5), (ρ 6), (ρ 7), v22_2] ds w.drew)
  else
  (vLen (.slice 1) (ρ 0) fun v35 =>
  vBin (.int .i64) .lss (ρ 8) v35 fun v36 =>
  vBool v36 fun g_2 => if g_2 = true then
  (vIA (.slice 1) (ρ 0) (ρ 8) fun v40 =>
  vLdS S .one v40 fun v41 =>
  vIA (.slice 1) (ρ 1) (ρ 8) fun v44 =>
  vLdS S .one v44 fun v45 =>
  vBin (.int .u8) .neq v41 v45 fun v46 =>
  vBool v36 fun b_2 =>
  vBool v31 fun b_3 =>
  vBool (bif b_3 then (.bool true) else (bif b_2 then v46 else (.bool false))) fun c_4 => if c_4 = true then
   (vBin (.int .i64) .add (ρ 8) (.int .i64 1) fun v22_3 =>
  ag2 [(ρ 0), (ρ 1), (ρ 5), (ρ 6), (.bool true), v22_3] ds w.drew)
  else
  vBin (.int .i64) .add (ρ 8) (.int .i64 1) fun v22_4 =>
  ag2 [(ρ 0), (ρ 1), (ρ 5), (ρ 6), (ρ 7), v22_4] ds w.drew)
  else
  (vBool v36 fun b_4 =>
  vBool v31 fun b_5 =>
  vBool (bif b_5 then (.bool true) else (bif b_4 then undef else (.bool false))) fun c_5 => if c_5 = true then
   (vBin (.int .i64) .add (ρ 8) (.int .i64 1) fun v22_5 =>
  ag2 [(ρ 0), (ρ 1), (ρ 5), (ρ 6), (.bool true), v22_5] ds w.drew)
  else
  vBin (.int .i64) .add (ρ 8) (.int .i64 1) fun v22_6 =>
  ag2 [(ρ 0), (ρ 1), (ρ 5), (ρ 6), (ρ 7), v22_6] ds w.drew)))
  else
  vBool (ρ 7) fun c_6 => if c_6 = true then
   (vBuildSlice Try.prog 32 1 [(0, (ρ 6))] w fun v52 w_2 =>
   vAppend Try.prog 32 32 (ρ 5) v52 w_2 fun v53 w_3 =>
   vBin (.int .i64) .add (ρ 6) (.int .i64 1) fun v13 =>
  ag1 [(ρ 0), (ρ 1), v53, v13] ds w_3)
  else
  vBin (.int .i64) .add (ρ 6) (.int .i64 1) fun v13_2 =>
  ag1 [(ρ 0), (ρ 1), (ρ 5), v13_2] ds w

def F19L1 (K : Value → World → Prop) (ρ : Env) (ds : List Nat) (w : World) (ag1 : List Value → List Nat → World → Prop) : Prop :=
  vBin (.int .i64) .lss (ρ 6) (.int .i64 64) fun v11 =>
  vBool v11 fun c => if c = true then
   (vBin (.int .i64) .mul (.int .i64 64) (ρ 6) fun v15 =>
  loopF [0, 1, 5, 6, 7, 8] [(ρ 0), (ρ 1), (ρ 5), (ρ 6), (.bool false), v15] ds w (F19L2 ag1))
  else
  leaveV ds w fun W => K (ρ 5) W

/-- gatehouse/gatehouseref03.Unlike -/
def F19 (t0 : Value) (t1 : Value) (w : World) (K : Value → World → Prop) : Prop :=
  vBuildSlice Try.prog 32 0 [] w fun v9 w =>
  loopF [0, 1, 5, 6] [t0, t1, v9, (.int .i64 0)] [] w (F19L1 K)

def tab19 : Tab := { sel := [(7, [0, 1, 5, 6, 7, 8]), (3, [0, 1, 5, 6])], plan := [(9, (.take 0 (.take 1 (.take 2 (.take 3 (.take 4 (.take 5 (.take 6 (.take 7 (.take 8 (.take 9 (.take 10 (.take 11 (.take 12 (.take 13 (.take 14 (.take 15 (.take 16 (.take 17 (.take 18 (.take 19 (.take 20 (.take 21 (.take 22 (.take 23 (.take 24 (.take 25 .done)))))))))))))))))))))))))))], join := [] }

theorem F19_eq (t0 : Value) (t1 : Value) (w : World) (K : Value → World → Prop) : enterV Try.prog tab19 Try.f19 [t0, t1] w K = F19 t0 t1 w K := by kernel_rfl

theorem F19_ok {t0 : Value} {t1 : Value} {w : World} {K : Value → World → Prop} (h : F19 t0 t1 w K) : Ret Try.prog 19 #[t0, t1] w K :=
  enter_sound (T := tab19) (args := [t0, t1]) Try.func19 Try.call19 mixed (by kernel_rfl) (by rw [F19_eq]; exact h)

def F20L1 (K : Value → World → Prop) (ρ : Env) (ds : List Nat) (w : World) (ag1 : List Value → List Nat → World → Prop) : Prop :=
  vBin (.int .i64) .lss (ρ 9) (.int .i64 8) fun v10 =>
  vBool v10 fun c => if c = true then
   (vBin (.int .i64) .mul (.int .i64 8) (ρ 9) fun v15 =>
  vBin (.int .u64) .shr (ρ 2) v15 fun v16 =>
  vConv (.int .u8) v16 fun v17 =>
  vIA (.arr 8 1) (ρ 7) (ρ 9) fun v18 =>
  vSt (some 1) v18 v17 w fun w_2 =>
  vBin (.int .i64) .add (ρ 9) (.int .i64 1) fun v19 =>
  ag1 [(ρ 0), (ρ 1), (ρ 2), (ρ 7), v19] ds w_2)
  else
  vSlice (.arr 8 1) (ρ 7) none none fun v22 =>
  vB2S v22 w fun v23 =>
  vBuildSlice Try.prog 41 1 [(0, v23)] w fun v24 w_3 =>
  CallK Try.prog 10 #[(ρ 0), (ρ 1), v24] w_3 fun v25 w_4 =>
  leaveV ds w_4 fun W => K v25 W

/-- (*gatehouse/pages.Bytes).SetWord -/
def F20 (t0 : Value) (t1 : Value) (t2 : Value) (w : World) (K : Value → World → Prop) : Prop :=
  vAlloc Try.prog 86 w fun v7 w =>
  loopF [0, 1, 2, 7, 9] [t0, t1, t2, v7, (.int .i64 0)] [] w (F20L1 K)

def tab20 : Tab := { sel := [(3, [0, 1, 2, 7, 9])], plan := [], join := [] }

theorem F20_eq (t0 : Value) (t1 : Value) (t2 : Value) (w : World) (K : Value → World → Prop) : enterV Try.prog tab20 Try.f20 [t0, t1, t2] w K = F20 t0 t1 t2 w K := by kernel_rfl

theorem F20_ok {t0 : Value} {t1 : Value} {t2 : Value} {w : World} {K : Value → World → Prop} (h : F20 t0 t1 t2 w K) : Ret Try.prog 20 #[t0, t1, t2] w K :=
  enter_sound (T := tab20) (args := [t0, t1, t2]) Try.func20 Try.call20 mixed (by kernel_rfl) (by rw [F20_eq]; exact h)

def F21L1 (K : Value → World → Prop) (ρ : Env) (ds : List Nat) (w : World) (ag1 : List Value → List Nat → World → Prop) : Prop :=
  vBin (.int .i64) .lss (ρ 18) (ρ 17) fun v19 =>
  vBool v19 fun c => if c = true then
   (vIx .string .bad (ρ 6) (ρ 18) fun v24 =>
  vConv (.int .u64) v24 fun v25 =>
  vBin (.int .i64) .mul (.int .i64 8) (ρ 18) fun v27 =>
  vBin (.int .u64) .shl v25 v27 fun v28 =>
  vBin (.int .u64) .or (ρ 8) v28 fun v29 =>
  vBin (.int .i64) .add (ρ 18) (.int .i64 1) fun v30 =>
  ag1 [(ρ 6), (ρ 7), v29, (ρ 17), v30] ds w)
  else
  leaveV ds w fun W => K (.tuple #[(ρ 8), (ρ 7)]) W

/-- (*gatehouse/pages.Bytes).Word -/
def F21 (t0 : Value) (t1 : Value) (w : World) (K : Value → World → Prop) : Prop :=
  CallK Try.prog 11 #[t0, t1, (.int .i64 8)] w fun v13 w =>
  vExt v13 0 fun v14 =>
  vExt v13 1 fun v15 =>
  vLen .string v14 fun v17 =>
  loopF [6, 7, 8, 17, 18] [v14, v15, (.int .u64 0), v17, (.int .i64 0)] [] w (F21L1 K)

def tab21 : Tab := { sel := [(4, [6, 7, 8, 17, 18])], plan := [], join := [] }

theorem F21_eq (t0 : Value) (t1 : Value) (w : World) (K : Value → World → Prop) : enterV Try.prog tab21 Try.f21 [t0, t1] w K = F21 t0 t1 w K := by kernel_rfl

theorem F21_ok {t0 : Value} {t1 : Value} {w : World} {K : Value → World → Prop} (h : F21 t0 t1 w K) : Ret Try.prog 21 #[t0, t1] w K :=
  enter_sound (T := tab21) (args := [t0, t1]) Try.func21 Try.call21 mixed (by kernel_rfl) (by rw [F21_eq]; exact h)

/-- (*gatehouse/pages.Bytes).Pages -/
def F22 (t0 : Value) (w : World) (K : Value → World → Prop) : Prop :=
  CallK Try.prog 13 #[t0] w fun v4 w =>
  vBin (.int .i64) .add v4 (.int .i64 64) fun v5 =>
  vBin (.int .i64) .sub v5 (.int .i64 1) fun v6 =>
  vBin (.int .i64) .quo v6 (.int .i64 64) fun v7 =>
  K v7 w

def tab22 : Tab := { sel := [], plan := [], join := [] }

theorem F22_eq (t0 : Value) (w : World) (K : Value → World → Prop) : enterV Try.prog tab22 Try.f22 [t0] w K = F22 t0 w K := by kernel_rfl

theorem F22_ok {t0 : Value} {w : World} {K : Value → World → Prop} (h : F22 t0 w K) : Ret Try.prog 22 #[t0] w K :=
  enter_sound (T := tab22) (args := [t0]) Try.func22 Try.call22 mixed (by kernel_rfl) (by rw [F22_eq]; exact h)

/-- (*gatehouse/pages.Bytes).fits -/
def F24 (t0 : Value) (t1 : Value) (t2 : Value) (w : World) (K : Value → World → Prop) : Prop :=
  vPtr .eql t0 (.pointer none) w fun v9 =>
  vBool v9 fun c => if c = true then
   (K (.int .i64 4) w)
  else
  vBin (.int .i64) .lss t1 (.int .i64 0) fun v12 =>
  vBool v12 fun g => if g = true then
  (vBool v12 fun b =>
  vBool (bif b then (.bool true) else undef) fun g_2 => if g_2 = true then
  (vBool (bif b then (.bool true) else undef) fun b_2 =>
  vBool (bif b_2 then (.bool true) else undef) fun g_3 => if g_3 = true then
  (vBool (bif b_2 then (.bool true) else undef) fun b_3 =>
  vBool (bif b_3 then (.bool true) else undef) fun c_2 => if c_2 = true then
   (K (.int .i64 9) w)
  else
  K (.int .i64 0) w)
  else
  (vNil t0 fun v28 =>
  vFA (some 0) v28 fun v29 =>
  vLd .one v29 w fun v30 =>
  vBin (.int .i64) .sub v30 t1 fun v32 =>
  vBin (.int .i64) .gtr t2 v32 fun v33 =>
  vBool (bif b_2 then (.bool true) else undef) fun b_4 =>
  vBool (bif b_4 then (.bool true) else v33) fun c_3 => if c_3 = true then
   (K (.int .i64 9) w)
  else
  K (.int .i64 0) w))
  else
  (vNil t0 fun v20 =>
  vFA (some 0) v20 fun v21 =>
  vLd .one v21 w fun v22 =>
  vBin (.int .i64) .gtr t1 v22 fun v23 =>
  vBool (bif b then (.bool true) else undef) fun b_5 =>
  vBool (bif b_5 then (.bool true) else v23) fun g_4 => if g_4 = true then
  (vBool (bif b_5 then (.bool true) else v23) fun b_6 =>
  vBool (bif b_6 then (.bool true) else undef) fun c_4 => if c_4 = true then
   (K (.int .i64 9) w)
  else
  K (.int .i64 0) w)
  else
  (vNil t0 fun v28_2 =>
  vFA (some 0) v28_2 fun v29_2 =>
  vLd .one v29_2 w fun v30_2 =>
  vBin (.int .i64) .sub v30_2 t1 fun v32_2 =>
  vBin (.int .i64) .gtr t2 v32_2 fun v33_2 =>
  vBool (bif b_5 then (.bool true) else v23) fun b_7 =>
  vBool (bif b_7 then (.bool true) else v33_2) fun c_5 => if c_5 = true then
   (K (.int .i64 9) w)
  else
  K (.int .i64 0) w)))
  else
  (vBin (.int .i64) .lss t2 (.int .i64 0) fun v15 =>
  vBool v12 fun b_8 =>
  vBool (bif b_8 then (.bool true) else v15) fun g_5 => if g_5 = true then
  (vBool (bif b_8 then (.bool true) else v15) fun b_9 =>
  vBool (bif b_9 then (.bool true) else undef) fun g_6 => if g_6 = true then
  (vBool (bif b_9 then (.bool true) else undef) fun b_10 =>
  vBool (bif b_10 then (.bool true) else undef) fun c_6 => if c_6 = true then
   (K (.int .i64 9) w)
  else
  K (.int .i64 0) w)
  else
  (vNil t0 fun v28_3 =>
  vFA (some 0) v28_3 fun v29_3 =>
  vLd .one v29_3 w fun v30_3 =>
  vBin (.int .i64) .sub v30_3 t1 fun v32_3 =>
  vBin (.int .i64) .gtr t2 v32_3 fun v33_3 =>
  vBool (bif b_9 then (.bool true) else undef) fun b_11 =>
  vBool (bif b_11 then (.bool true) else v33_3) fun c_7 => if c_7 = true then
   (K (.int .i64 9) w)
  else
  K (.int .i64 0) w))
  else
  (vNil t0 fun v20_2 =>
  vFA (some 0) v20_2 fun v21_2 =>
  vLd .one v21_2 w fun v22_2 =>
  vBin (.int .i64) .gtr t1 v22_2 fun v23_2 =>
  vBool (bif b_8 then (.bool true) else v15) fun b_12 =>
  vBool (bif b_12 then (.bool true) else v23_2) fun g_7 => if g_7 = true then
  (vBool (bif b_12 then (.bool true) else v23_2) fun b_13 =>
  vBool (bif b_13 then (.bool true) else undef) fun c_8 => if c_8 = true then
   (K (.int .i64 9) w)
  else
  K (.int .i64 0) w)
  else
  (vNil t0 fun v28_4 =>
  vFA (some 0) v28_4 fun v29_4 =>
  vLd .one v29_4 w fun v30_4 =>
  vBin (.int .i64) .sub v30_4 t1 fun v32_4 =>
  vBin (.int .i64) .gtr t2 v32_4 fun v33_4 =>
  vBool (bif b_12 then (.bool true) else v23_2) fun b_14 =>
  vBool (bif b_14 then (.bool true) else v33_4) fun c_9 => if c_9 = true then
   (K (.int .i64 9) w)
  else
  K (.int .i64 0) w)))

def tab24 : Tab := { sel := [], plan := [], join := [] }

theorem F24_eq (t0 : Value) (t1 : Value) (t2 : Value) (w : World) (K : Value → World → Prop) : enterV Try.prog tab24 Try.f24 [t0, t1, t2] w K = F24 t0 t1 t2 w K := by kernel_rfl

theorem F24_ok {t0 : Value} {t1 : Value} {t2 : Value} {w : World} {K : Value → World → Prop} (h : F24 t0 t1 t2 w K) : Ret Try.prog 24 #[t0, t1, t2] w K :=
  enter_sound (T := tab24) (args := [t0, t1, t2]) Try.func24 Try.call24 mixed (by kernel_rfl) (by rw [F24_eq]; exact h)

/-- gatehouse/pages.pieces -/
def F25 (t0 : Value) (t1 : Value) (w : World) (K : Value → World → Prop) : Prop :=
  vBox 3 t0 w fun v2 w =>
  vBox 3 t1 w fun v3 w_2 =>
  K (.func (.func 38) #[] #[v3, v2]) w_2

def tab25 : Tab := { sel := [], plan := [], join := [] }

theorem F25_eq (t0 : Value) (t1 : Value) (w : World) (K : Value → World → Prop) : enterV Try.prog tab25 Try.f25 [t0, t1] w K = F25 t0 t1 w K := by kernel_rfl

theorem F25_ok {t0 : Value} {t1 : Value} {w : World} {K : Value → World → Prop} (h : F25 t0 t1 w K) : Ret Try.prog 25 #[t0, t1] w K :=
  enter_sound (T := tab25) (args := [t0, t1]) Try.func25 Try.call25 mixed (by kernel_rfl) (by rw [F25_eq]; exact h)

/-- (*gatehouse/pages.Bytes).own -/
def F26 (t0 : Value) (t1 : Value) (w : World) (K : Value → World → Prop) : Prop :=
  vNil t0 fun v7 =>
  vFA (some 2) v7 fun v8 =>
  vLd .one v8 w fun v9 =>
  vIA (.slice 1) v9 t1 fun v11 =>
  vLd .one v11 w fun v12 =>
  vUn .not v12 fun v13 =>
  vBool v13 fun c => if c = true then
   (vNil t0 fun v15 =>
   vFA (some 1) v15 fun v16 =>
   vLd .one v16 w fun v17 =>
   vIA (.slice 1) v17 t1 fun v19 =>
   vLd .one v19 w fun v20 =>
   vNil v20 fun v21 =>
   vLd (.agg 64) v21 w fun v22 =>
   vAlloc Try.prog 85 w fun v5 w =>
   vSt (some 64) v5 v22 w fun w_2 =>
   drawF w_2 fun S =>
   vNil t0 fun v24 =>
   vFA (some 1) v24 fun v25 =>
   vLdS S .one v25 fun v26 =>
   vNil t0 fun v29 =>
   vFA (some 2) v29 fun v30 =>
   vLdS S .one v30 fun v31 =>
   vIA (.slice 1) v26 t1 fun v33 =>
   (vSt (some 1) v33 v5 w_2.drew fun w_3 =>
   (vIA (.slice 1) v31 t1 fun v34 =>
   (vSt (some 1) v34 (.bool true) w_3 fun w_4 =>
   (vNil t0 fun v36 =>
  vFA (some 1) v36 fun v37 =>
  vLd .one v37 w_4 fun v38 =>
  vIA (.slice 1) v38 t1 fun v40 =>
  vLd .one v40 w_4 fun v41 =>
  K v41 w_4)) ∧
   (True))) ∧
   (True))
  else
  vNil t0 fun v36_2 =>
  vFA (some 1) v36_2 fun v37_2 =>
  vLd .one v37_2 w fun v38_2 =>
  vIA (.slice 1) v38_2 t1 fun v40_2 =>
  vLd .one v40_2 w fun v41_2 =>
  K v41_2 w

def tab26 : Tab := { sel := [], plan := [(3, (.take 0 (.take 1 (.take 2 (.take 3 (.take 4 (.take 5 (.take 6 (.take 7 (.take 8 (.take 9 (.take 10 (.alt 11 (.take 12 (.alt 13 .done .stop)) .stop)))))))))))))], join := [] }

theorem F26_eq (t0 : Value) (t1 : Value) (w : World) (K : Value → World → Prop) : enterV Try.prog tab26 Try.f26 [t0, t1] w K = F26 t0 t1 w K := by kernel_rfl

theorem F26_ok {t0 : Value} {t1 : Value} {w : World} {K : Value → World → Prop} (h : F26 t0 t1 w K) : Ret Try.prog 26 #[t0, t1] w K :=
  enter_sound (T := tab26) (args := [t0, t1]) Try.func26 Try.call26 mixed (by kernel_rfl) (by rw [F26_eq]; exact h)

/-- (*strings.Builder).Write -/
def F27 (t0 : Value) (t1 : Value) (w : World) (K : Value → World → Prop) : Prop :=
  CallK Try.prog 39 #[t0] w fun v7 w =>
  vNil t0 fun v10 =>
  vFA (some 1) v10 fun v11 =>
  vLd .one v11 w fun v12 =>
  vAppend Try.prog 38 38 v12 t1 w fun v14 w_2 =>
  vNil t0 fun v15 =>
  vFA (some 1) v15 fun v16 =>
  vSt (some 1) v16 v14 w_2 fun w_3 =>
  vLen (.slice 1) t1 fun v18 =>
  K (.tuple #[v18, .nilIface]) w_3

def tab27 : Tab := { sel := [], plan := [], join := [] }

theorem F27_eq (t0 : Value) (t1 : Value) (w : World) (K : Value → World → Prop) : enterV Try.prog tab27 Try.f27 [t0, t1] w K = F27 t0 t1 w K := by kernel_rfl

theorem F27_ok {t0 : Value} {t1 : Value} {w : World} {K : Value → World → Prop} (h : F27 t0 t1 w K) : Ret Try.prog 27 #[t0, t1] w K :=
  enter_sound (T := tab27) (args := [t0, t1]) Try.func27 Try.call27 mixed (by kernel_rfl) (by rw [F27_eq]; exact h)

/-- (*strings.Builder).String -/
def F28 (t0 : Value) (w : World) (K : Value → World → Prop) : Prop :=
  drawF w fun S =>
  vNil t0 fun v4 =>
  vFA (some 1) v4 fun v5 =>
  vLdS S .one v5 fun v6 =>
  vUSD v6 fun v7 =>
  vNil t0 fun v9 =>
  vFA (some 1) v9 fun v10 =>
  vLdS S .one v10 fun v11 =>
  vLen (.slice 1) v11 fun v12 =>
  (vUStr Try.prog 90 v7 v12 w.drew fun v13 w =>
  S w ∧ (K v13 w)) ∧
  (True)

def tab28 : Tab := { sel := [], plan := [(1, (.take 0 (.take 1 (.take 2 (.take 3 (.take 4 (.take 5 (.take 6 (.take 7 (.take 8 (.take 9 (.alt 10 (.take 11 .done) .stop))))))))))))], join := [] }

theorem F28_eq (t0 : Value) (w : World) (K : Value → World → Prop) : enterV Try.prog tab28 Try.f28 [t0] w K = F28 t0 w K := by kernel_rfl

theorem F28_ok {t0 : Value} {w : World} {K : Value → World → Prop} (h : F28 t0 w K) : Ret Try.prog 28 #[t0] w K :=
  enter_sound (T := tab28) (args := [t0]) Try.func28 Try.call28 mixed (by kernel_rfl) (by rw [F28_eq]; exact h)

/-- gatehouse/pages.zero -/
def F29 (w : World) (K : Value → World → Prop) : Prop :=
  vBuild Try.prog 85 [] fun v1 =>
  vBox 85 v1 w fun v2 w =>
  K v2 w

def tab29 : Tab := { sel := [], plan := [], join := [] }

theorem F29_eq (w : World) (K : Value → World → Prop) : enterV Try.prog tab29 Try.f29 [] w K = F29 w K := by kernel_rfl

theorem F29_ok {w : World} {K : Value → World → Prop} (h : F29 w K) : Ret Try.prog 29 #[] w K :=
  enter_sound (T := tab29) (args := []) Try.func29 Try.call29 mixed (by kernel_rfl) (by rw [F29_eq]; exact h)

/-- gatehouse/gatehouseref03.Read -/
def F30 (t0 : Value) (t1 : Value) (t2 : Value) (w : World) (K : Value → World → Prop) : Prop :=
  CallK Try.prog 40 #[t0, t1, t2] w fun v11 w =>
  vUn .not v11 fun v12 =>
  vBool v12 fun c => if c = true then
   (K (.tuple #[(.string ⟨#[]⟩), (.int .i64 9)]) w)
  else
  vBin (.int .i64) .add t1 t2 fun v17 =>
  vSlice (.slice 1) t0 (some t1) (some v17) fun v18 =>
  vB2S v18 w fun v19 =>
  K (.tuple #[v19, (.int .i64 0)]) w

def tab30 : Tab := { sel := [], plan := [], join := [] }

theorem F30_eq (t0 : Value) (t1 : Value) (t2 : Value) (w : World) (K : Value → World → Prop) : enterV Try.prog tab30 Try.f30 [t0, t1, t2] w K = F30 t0 t1 t2 w K := by kernel_rfl

theorem F30_ok {t0 : Value} {t1 : Value} {t2 : Value} {w : World} {K : Value → World → Prop} (h : F30 t0 t1 t2 w K) : Ret Try.prog 30 #[t0, t1, t2] w K :=
  enter_sound (T := tab30) (args := [t0, t1, t2]) Try.func30 Try.call30 mixed (by kernel_rfl) (by rw [F30_eq]; exact h)

def F31L1 (K : Value → World → Prop) (ρ : Env) (ds : List Nat) (w : World) (ag1 : List Value → List Nat → World → Prop) : Prop :=
  vLen .string (ρ 2) fun v22 =>
  vBin (.int .i64) .lss (ρ 9) v22 fun v23 =>
  vBool v23 fun c_2 => if c_2 = true then
   (vBin (.int .i64) .add (ρ 1) (ρ 9) fun v29 =>
  vIx .string .bad (ρ 2) (ρ 9) fun v32 =>
  vIA (.slice 1) (ρ 8) v29 fun v33 =>
  vSt (some 1) v33 v32 w fun w_4 =>
  vBin (.int .i64) .add (ρ 9) (.int .i64 1) fun v25 =>
  ag1 [(ρ 1), (ρ 2), (ρ 8), v25] ds w_4)
  else
  leaveV ds w fun W => K (.tuple #[(ρ 8), (.int .i64 0)]) W

/-- gatehouse/gatehouseref03.Write -/
def F31 (t0 : Value) (t1 : Value) (t2 : Value) (w : World) (K : Value → World → Prop) : Prop :=
  vLen .string t2 fun v13 =>
  CallK Try.prog 40 #[t0, t1, v13] w fun v14 w =>
  vUn .not v14 fun v15 =>
  vBool v15 fun c => if c = true then
   (K (.tuple #[t0, (.int .i64 9)]) w)
  else
  vBuildSlice Try.prog 38 0 [] w fun v17 w_2 =>
  vAppend Try.prog 38 38 v17 t0 w_2 fun v19 w_3 =>
  loopF [1, 2, 8, 9] [t1, t2, v19, (.int .i64 0)] [] w_3 (F31L1 K)

def tab31 : Tab := { sel := [(5, [1, 2, 8, 9])], plan := [], join := [] }

theorem F31_eq (t0 : Value) (t1 : Value) (t2 : Value) (w : World) (K : Value → World → Prop) : enterV Try.prog tab31 Try.f31 [t0, t1, t2] w K = F31 t0 t1 t2 w K := by kernel_rfl

theorem F31_ok {t0 : Value} {t1 : Value} {t2 : Value} {w : World} {K : Value → World → Prop} (h : F31 t0 t1 t2 w K) : Ret Try.prog 31 #[t0, t1, t2] w K :=
  enter_sound (T := tab31) (args := [t0, t1, t2]) Try.func31 Try.call31 mixed (by kernel_rfl) (by rw [F31_eq]; exact h)

def F32L1 (K : Value → World → Prop) (ρ : Env) (ds : List Nat) (w : World) (ag1 : List Value → List Nat → World → Prop) : Prop :=
  vBin (.int .i64) .lss (ρ 8) (ρ 7) fun v9 =>
  vBool v9 fun c => if c = true then
   (vIA (.slice 1) (ρ 6) (ρ 8) fun v10 =>
  vLd .one v10 w fun v11 =>
  vAppend Try.prog 38 9 (ρ 3) v11 w fun v14 w =>
  vBin (.int .i64) .add (ρ 8) (.int .i64 1) fun v15 =>
  ag1 [v14, (ρ 6), (ρ 7), v15] ds w)
  else
  vB2S (ρ 3) w fun v17 =>
  leaveV ds w fun W => K v17 W

/-- gatehouse/gatehouselaw03.joined -/
def F32 (t0 : Value) (w : World) (K : Value → World → Prop) : Prop :=
  vLen (.slice 1) t0 fun v7 =>
  loopF [3, 6, 7, 8] [(.slice none 0 0), t0, v7, (.int .i64 0)] [] w (F32L1 K)

def tab32 : Tab := { sel := [(3, [3, 6, 7, 8])], plan := [], join := [] }

theorem F32_eq (t0 : Value) (w : World) (K : Value → World → Prop) : enterV Try.prog tab32 Try.f32 [t0] w K = F32 t0 w K := by kernel_rfl

theorem F32_ok {t0 : Value} {w : World} {K : Value → World → Prop} (h : F32 t0 w K) : Ret Try.prog 32 #[t0] w K :=
  enter_sound (T := tab32) (args := [t0]) Try.func32 Try.call32 mixed (by kernel_rfl) (by rw [F32_eq]; exact h)

def F33L1 (K : Value → World → Prop) (ρ : Env) (ds : List Nat) (w : World) (ag1 : List Value → List Nat → World → Prop) : Prop :=
  vBin (.int .i64) .lss (ρ 7) (ρ 1) fun v16 =>
  vBool v16 fun g => if g = true then
  (vLen (.slice 1) (ρ 0) fun v20 =>
  vBin (.int .i64) .lss (ρ 7) v20 fun v21 =>
  vBool v16 fun b =>
  vBool (bif b then v21 else (.bool false)) fun c_2 => if c_2 = true then
   (vIA (.slice 1) (ρ 0) (ρ 7) fun v29 =>
  vLd .one v29 w fun v30 =>
  vIA (.slice 1) (ρ 6) (ρ 7) fun v31 =>
  vSt (some 1) v31 v30 w fun w_3 =>
  vBin (.int .i64) .add (ρ 7) (.int .i64 1) fun v24 =>
  ag1 [(ρ 0), (ρ 1), (ρ 6), v24] ds w_3)
  else
  leaveV ds w fun W => K (.tuple #[(ρ 6), (.int .i64 0)]) W)
  else
  (vBool v16 fun b_2 =>
  vBool (bif b_2 then undef else (.bool false)) fun c_3 => if c_3 = true then
   (vIA (.slice 1) (ρ 0) (ρ 7) fun v29_2 =>
  vLd .one v29_2 w fun v30_2 =>
  vIA (.slice 1) (ρ 6) (ρ 7) fun v31_2 =>
  vSt (some 1) v31_2 v30_2 w fun w_4 =>
  vBin (.int .i64) .add (ρ 7) (.int .i64 1) fun v24_2 =>
  ag1 [(ρ 0), (ρ 1), (ρ 6), v24_2] ds w_4)
  else
  leaveV ds w fun W => K (.tuple #[(ρ 6), (.int .i64 0)]) W)

/-- gatehouse/gatehouseref03.Resize -/
def F33 (t0 : Value) (t1 : Value) (w : World) (K : Value → World → Prop) : Prop :=
  CallK Try.prog 14 #[t1] w fun v9 w =>
  vUn .not v9 fun v10 =>
  vBool v10 fun c => if c = true then
   (K (.tuple #[t0, (.int .i64 1)]) w)
  else
  vMakeSlice Try.prog 38 t1 t1 w fun v13 w_2 =>
  loopF [0, 1, 6, 7] [t0, t1, v13, (.int .i64 0)] [] w_2 (F33L1 K)

def tab33 : Tab := { sel := [(5, [0, 1, 6, 7])], plan := [], join := [] }

theorem F33_eq (t0 : Value) (t1 : Value) (w : World) (K : Value → World → Prop) : enterV Try.prog tab33 Try.f33 [t0, t1] w K = F33 t0 t1 w K := by kernel_rfl

theorem F33_ok {t0 : Value} {t1 : Value} {w : World} {K : Value → World → Prop} (h : F33 t0 t1 w K) : Ret Try.prog 33 #[t0, t1] w K :=
  enter_sound (T := tab33) (args := [t0, t1]) Try.func33 Try.call33 mixed (by kernel_rfl) (by rw [F33_eq]; exact h)

def F34L1 (K : Value → World → Prop) (ρ : Env) (ds : List Nat) (w : World) (ag1 : List Value → List Nat → World → Prop) : Prop :=
  vBin (.int .i64) .geq (ρ 9) (.int .i64 0) fun v20 =>
  vBool v20 fun c => if c = true then
   (vBin (.int .u64) .mul (ρ 8) (.int .u64 256) fun v24 =>
  vIx .string .bad (ρ 6) (ρ 9) fun v27 =>
  vConv (.int .u64) v27 fun v28 =>
  vBin (.int .u64) .add v24 v28 fun v29 =>
  vBin (.int .i64) .sub (ρ 9) (.int .i64 1) fun v22 =>
  ag1 [(ρ 6), (ρ 7), v29, v22] ds w)
  else
  leaveV ds w fun W => K (.tuple #[(ρ 8), (ρ 7)]) W

/-- gatehouse/gatehouseref03.Word -/
def F34 (t0 : Value) (t1 : Value) (w : World) (K : Value → World → Prop) : Prop :=
  CallK Try.prog 30 #[t0, t1, (.int .i64 8)] w fun v13 w =>
  vExt v13 0 fun v14 =>
  vExt v13 1 fun v15 =>
  vLen .string v14 fun v17 =>
  vBin (.int .i64) .sub v17 (.int .i64 1) fun v18 =>
  loopF [6, 7, 8, 9] [v14, v15, (.int .u64 0), v18] [] w (F34L1 K)

def tab34 : Tab := { sel := [(4, [6, 7, 8, 9])], plan := [], join := [] }

theorem F34_eq (t0 : Value) (t1 : Value) (w : World) (K : Value → World → Prop) : enterV Try.prog tab34 Try.f34 [t0, t1] w K = F34 t0 t1 w K := by kernel_rfl

theorem F34_ok {t0 : Value} {t1 : Value} {w : World} {K : Value → World → Prop} (h : F34 t0 t1 w K) : Ret Try.prog 34 #[t0, t1] w K :=
  enter_sound (T := tab34) (args := [t0, t1]) Try.func34 Try.call34 mixed (by kernel_rfl) (by rw [F34_eq]; exact h)

def F35L1 (K : Value → World → Prop) (ρ : Env) (ds : List Nat) (w : World) (ag1 : List Value → List Nat → World → Prop) : Prop :=
  vBin (.int .i64) .lss (ρ 4) (.int .i64 8) fun v7 =>
  vBool v7 fun c => if c = true then
   (vBin (.int .u64) .rem (ρ 0) (.int .u64 256) fun v12 =>
  vConv (.int .u8) v12 fun v13 =>
  vBuildSlice Try.prog 38 1 [(0, v13)] w fun v14 w_2 =>
  vAppend Try.prog 38 38 (ρ 3) v14 w_2 fun v15 w_3 =>
  vBin (.int .u64) .quo (ρ 0) (.int .u64 256) fun v17 =>
  vBin (.int .i64) .add (ρ 4) (.int .i64 1) fun v9 =>
  ag1 [v17, v15, v9] ds w_3)
  else
  vB2S (ρ 3) w fun v19 =>
  leaveV ds w fun W => K v19 W

/-- gatehouse/gatehouseref03.Eight -/
def F35 (t0 : Value) (w : World) (K : Value → World → Prop) : Prop :=
  vBuildSlice Try.prog 38 0 [] w fun v5 w =>
  loopF [0, 3, 4] [t0, v5, (.int .i64 0)] [] w (F35L1 K)

def tab35 : Tab := { sel := [(3, [0, 3, 4])], plan := [], join := [] }

theorem F35_eq (t0 : Value) (w : World) (K : Value → World → Prop) : enterV Try.prog tab35 Try.f35 [t0] w K = F35 t0 w K := by kernel_rfl

theorem F35_ok {t0 : Value} {w : World} {K : Value → World → Prop} (h : F35 t0 w K) : Ret Try.prog 35 #[t0] w K :=
  enter_sound (T := tab35) (args := [t0]) Try.func35 Try.call35 mixed (by kernel_rfl) (by rw [F35_eq]; exact h)

/-- (*strings.Builder).WriteString -/
def F37 (t0 : Value) (t1 : Value) (w : World) (K : Value → World → Prop) : Prop :=
  CallK Try.prog 39 #[t0] w fun v7 w =>
  vNil t0 fun v10 =>
  vFA (some 1) v10 fun v11 =>
  vLd .one v11 w fun v12 =>
  vAppend Try.prog 38 9 v12 t1 w fun v14 w_2 =>
  vNil t0 fun v15 =>
  vFA (some 1) v15 fun v16 =>
  vSt (some 1) v16 v14 w_2 fun w_3 =>
  vLen .string t1 fun v18 =>
  K (.tuple #[v18, .nilIface]) w_3

def tab37 : Tab := { sel := [], plan := [], join := [] }

theorem F37_eq (t0 : Value) (t1 : Value) (w : World) (K : Value → World → Prop) : enterV Try.prog tab37 Try.f37 [t0, t1] w K = F37 t0 t1 w K := by kernel_rfl

theorem F37_ok {t0 : Value} {t1 : Value} {w : World} {K : Value → World → Prop} (h : F37 t0 t1 w K) : Ret Try.prog 37 #[t0, t1] w K :=
  enter_sound (T := tab37) (args := [t0, t1]) Try.func37 Try.call37 mixed (by kernel_rfl) (by rw [F37_eq]; exact h)

def F38L1 (K : Value → World → Prop) (ρ : Env) (ds : List Nat) (w : World) (ag1 : List Value → List Nat → World → Prop) : Prop :=
  vLd .one (ρ 1) w fun v6 =>
  vBin (.int .i64) .gtr v6 (.int .i64 0) fun v7 =>
  vBool v7 fun c => if c = true then
   (vLd .one (ρ 2) w fun v8 =>
  vBin (.int .i64) .rem v8 (.int .i64 64) fun v9 =>
  vLd .one (ρ 1) w fun v11 =>
  vBin (.int .i64) .add v9 v11 fun v12 =>
  vMin v12 [(.int .i64 64)] fun v13 =>
  vLd .one (ρ 2) w fun v15 =>
  vBin (.int .i64) .quo v15 (.int .i64 64) fun v16 =>
  vBuild Try.prog 65 [(0, v9), (1, v13)] fun v19 =>
  vCallV Try.prog (ρ 0) [v16, v19] w fun v20 w =>
  vUn .not v20 fun v21 =>
  vBool v21 fun c_2 => if c_2 = true then
   (leaveV ds w fun W => K (.tuple #[]) W)
  else
  vLd .one (ρ 2) w fun v22 =>
  vBin (.int .i64) .sub v13 v9 fun v25 =>
  vBin (.int .i64) .add v22 v25 fun v26 =>
  vSt (some 1) (ρ 2) v26 w fun w_2 =>
  vLd .one (ρ 1) w_2 fun v27 =>
  vBin (.int .i64) .sub v13 v9 fun v30 =>
  vBin (.int .i64) .sub v27 v30 fun v31 =>
  vSt (some 1) (ρ 1) v31 w_2 fun w_3 =>
  ag1 [(ρ 0), (ρ 1), (ρ 2)] ds w_3)
  else
  leaveV ds w fun W => K (.tuple #[]) W

/-- gatehouse/pages.pieces$1 -/
def F38 (t0 : Value) (t1 : Value) (t2 : Value) (w : World) (K : Value → World → Prop) : Prop :=
  loopF [0, 1, 2] [t0, t1, t2] [] w (F38L1 K)

def tab38 : Tab := { sel := [(0, [0, 1, 2])], plan := [], join := [] }

theorem F38_eq (t0 : Value) (t1 : Value) (t2 : Value) (w : World) (K : Value → World → Prop) : enterV Try.prog tab38 Try.f38 [t0, t1, t2] w K = F38 t0 t1 t2 w K := by kernel_rfl

theorem F38_ok {t0 : Value} {t1 : Value} {t2 : Value} {w : World} {K : Value → World → Prop} (h : F38 t0 t1 t2 w K) : Ret Try.prog 38 #[t0, t1, t2] w K :=
  enter_sound (T := tab38) (args := [t0, t1, t2]) Try.func38 Try.call38 mixed (by kernel_rfl) (by rw [F38_eq]; exact h)

/-- (*strings.Builder).copyCheck -/
def F39 (t0 : Value) (w : World) (K : Value → World → Prop) : Prop :=
  vNil t0 fun v3 =>
  vFA (some 0) v3 fun v4 =>
  vLd .one v4 w fun v5 =>
  vPtr .eql v5 (.pointer none) w fun v6 =>
  vBool v6 fun c => if c = true then
   (vToU t0 w fun v9 =>
   CallK Try.prog 42 #[v9] w fun v10 w =>
   vFromU Try.prog 70 v10 w fun v11 =>
   vNil t0 fun v12 =>
   vFA (some 0) v12 fun v13 =>
   vSt (some 1) v13 v11 w fun w_2 =>
   K (.tuple #[]) w_2)
  else
  vNil t0 fun v15 =>
  vFA (some 0) v15 fun v16 =>
  vLd .one v16 w fun v17 =>
  vPtr .neq v17 t0 w fun v19 =>
  vBool v19 fun c_2 => if c_2 = true then
   (False)
  else
  K (.tuple #[]) w

def tab39 : Tab := { sel := [], plan := [], join := [] }

theorem F39_eq (t0 : Value) (w : World) (K : Value → World → Prop) : enterV Try.prog tab39 Try.f39 [t0] w K = F39 t0 w K := by kernel_rfl

theorem F39_ok {t0 : Value} {w : World} {K : Value → World → Prop} (h : F39 t0 w K) : Ret Try.prog 39 #[t0] w K :=
  enter_sound (T := tab39) (args := [t0]) Try.func39 Try.call39 mixed (by kernel_rfl) (by rw [F39_eq]; exact h)

/-- gatehouse/gatehouseref03.Fits -/
def F40 (t0 : Value) (t1 : Value) (t2 : Value) (w : World) (K : Value → World → Prop) : Prop :=
  vBin (.int .i64) .geq t1 (.int .i64 0) fun v8 =>
  vBool v8 fun g => if g = true then
  (vBin (.int .i64) .geq t2 (.int .i64 0) fun v11 =>
  vBool v8 fun b =>
  vBool (bif b then v11 else (.bool false)) fun g_2 => if g_2 = true then
  (vLen (.slice 1) t0 fun v16 =>
  vBin (.int .i64) .leq t1 v16 fun v17 =>
  vBool (bif b then v11 else (.bool false)) fun b_2 =>
  vBool (bif b_2 then v17 else (.bool false)) fun g_3 => if g_3 = true then
  (vLen (.slice 1) t0 fun v22 =>
  vBin (.int .i64) .sub v22 t1 fun v24 =>
  vBin (.int .i64) .leq t2 v24 fun v25 =>
  vBool (bif b_2 then v17 else (.bool false)) fun b_3 =>
  K (bif b_3 then v25 else (.bool false)) w)
  else
  (vBool (bif b_2 then v17 else (.bool false)) fun b_4 =>
  K (bif b_4 then undef else (.bool false)) w))
  else
  (vBool (bif b then v11 else (.bool false)) fun b_5 =>
  vBool (bif b_5 then undef else (.bool false)) fun g_4 => if g_4 = true then
  (vLen (.slice 1) t0 fun v22_2 =>
  vBin (.int .i64) .sub v22_2 t1 fun v24_2 =>
  vBin (.int .i64) .leq t2 v24_2 fun v25_2 =>
  vBool (bif b_5 then undef else (.bool false)) fun b_6 =>
  K (bif b_6 then v25_2 else (.bool false)) w)
  else
  (vBool (bif b_5 then undef else (.bool false)) fun b_7 =>
  K (bif b_7 then undef else (.bool false)) w)))
  else
  (vBool v8 fun b_8 =>
  vBool (bif b_8 then undef else (.bool false)) fun g_5 => if g_5 = true then
  (vLen (.slice 1) t0 fun v16_2 =>
  vBin (.int .i64) .leq t1 v16_2 fun v17_2 =>
  vBool (bif b_8 then undef else (.bool false)) fun b_9 =>
  vBool (bif b_9 then v17_2 else (.bool false)) fun g_6 => if g_6 = true then
  (vLen (.slice 1) t0 fun v22_3 =>
  vBin (.int .i64) .sub v22_3 t1 fun v24_3 =>
  vBin (.int .i64) .leq t2 v24_3 fun v25_3 =>
  vBool (bif b_9 then v17_2 else (.bool false)) fun b_10 =>
  K (bif b_10 then v25_3 else (.bool false)) w)
  else
  (vBool (bif b_9 then v17_2 else (.bool false)) fun b_11 =>
  K (bif b_11 then undef else (.bool false)) w))
  else
  (vBool (bif b_8 then undef else (.bool false)) fun b_12 =>
  vBool (bif b_12 then undef else (.bool false)) fun g_7 => if g_7 = true then
  (vLen (.slice 1) t0 fun v22_4 =>
  vBin (.int .i64) .sub v22_4 t1 fun v24_4 =>
  vBin (.int .i64) .leq t2 v24_4 fun v25_4 =>
  vBool (bif b_12 then undef else (.bool false)) fun b_13 =>
  K (bif b_13 then v25_4 else (.bool false)) w)
  else
  (vBool (bif b_12 then undef else (.bool false)) fun b_14 =>
  K (bif b_14 then undef else (.bool false)) w)))

def tab40 : Tab := { sel := [], plan := [], join := [] }

theorem F40_eq (t0 : Value) (t1 : Value) (t2 : Value) (w : World) (K : Value → World → Prop) : enterV Try.prog tab40 Try.f40 [t0, t1, t2] w K = F40 t0 t1 t2 w K := by kernel_rfl

theorem F40_ok {t0 : Value} {t1 : Value} {t2 : Value} {w : World} {K : Value → World → Prop} (h : F40 t0 t1 t2 w K) : Ret Try.prog 40 #[t0, t1, t2] w K :=
  enter_sound (T := tab40) (args := [t0, t1, t2]) Try.func40 Try.call40 mixed (by kernel_rfl) (by rw [F40_eq]; exact h)

end Go.Proofs.Ytdaopbkggmlopaa
