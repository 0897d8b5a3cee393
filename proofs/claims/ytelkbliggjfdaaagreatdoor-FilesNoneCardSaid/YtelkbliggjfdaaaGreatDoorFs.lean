import Derived.Test.YtelkbliggjfdaaaGreatDoorVD
import Derived.Test.YtelkbliggjfdaaaGreatDoorProg
set_option linter.unusedVariables false
set_option linter.unusedSimpArgs false

set_option linter.unusedVariables false
namespace Go.Proofs.YtelkbliggjfdaaaGreatDoor
open Go Go.V
theorem mixed : Tryz.prog.follows .mixedOrders = true := by kernel_rfl
set_option maxRecDepth 100000

def F3J1 (K : Value → World → Prop) (ρ : Env) (ds : List Nat) (w : World) : Prop :=
  vBool (ρ 19) fun c_2 => if c_2 = true then
   (leaveV ds w fun W => K (.bool false) W)
  else
  vFA (some 0) (ρ 1) fun v20 =>
  vLd .one v20 w fun v21 =>
  vConv (.int .u64) v21 fun v22 =>
  vBin (.int .u64) .rem v22 (.int .u64 10) fun v23 =>
  vConv (.int .i64) v23 fun v24 =>
  vBin (.int .i64) .add (.int .i64 1) v24 fun v25 =>
  vFA (some 0) (ρ 1) fun v26 =>
  vSt (some 1) v26 v25 w fun w_5 =>
  vLd (.agg 9) (ρ 1) w_5 fun v28 =>
  CallK Tryz.prog 7 #[(ρ 3), v28, (.int .i64 7)] w_5 fun v29 w_6 =>
  vAlloc Tryz.prog 40 w_6 fun v5 w_7 =>
  vSt (some 9) v5 v29 w_7 fun w_8 =>
  vLd (.agg 9) v5 w_8 fun v30 =>
  vBuild Tryz.prog 40 [(0, (.int .i64 4))] fun v31 =>
  CallK Tryz.prog 8 #[v30, v31] w_8 fun v32 w_9 =>
  leaveV ds w_9 fun W => K v32 W

/-- gatehouse/gatehouselaw14.FilesNone -/
def F3 (t0 : Value) (w : World) (K : Value → World → Prop) : Prop :=
  vBox 26 t0 w fun v1 w =>
  CallK Tryz.prog 4 #[] w fun v6 w_2 =>
  vUn .not v6 fun v7 =>
  vBool v7 fun c => if c = true then
   (K (.bool false) w_2)
  else
  vBuild Tryz.prog 33 [(0, (.int .i64 3)), (1, (.int .i64 9))] fun v9 =>
  CallK Tryz.prog 6 #[] w_2 fun v10 w_3 =>
  CallK Tryz.prog 5 #[(.pointer none), v9, (.int .i64 1), v10, (.int .i64 9999)] w_3 fun v11 w_4 =>
  vExt v11 0 fun v12 =>
  vExt v11 1 fun v13 =>
  joinF [1, 3, 19] (fun J1 =>
  vPtr .neq v12 (.pointer none) w_4 fun v15 =>
  vBool v15 fun g => if g = true then
  (J1 [v1, v12, (.bool true)] [] w_4)
  else
  (vBin (.int .i64) .neq v13 (.int .i64 4) fun v18 =>
  J1 [v1, v12, v18] [] w_4))
  (F3J1 K)

def tab3 : Tab := { sel := [], plan := [], join := [(5, [1, 3, 19])] }

theorem F3_eq (t0 : Value) (w : World) (K : Value → World → Prop) : enterV Tryz.prog tab3 Tryz.f3 [t0] w K = F3 t0 w K := by kernel_rfl

theorem F3_ok {t0 : Value} {w : World} {K : Value → World → Prop} (h : F3 t0 w K) : Ret Tryz.prog 3 #[t0] w K :=
  enter_sound (T := tab3) (args := [t0]) Tryz.func3 Tryz.call3 mixed (by kernel_rfl) (by rw [F3_eq]; exact h)

/-- gatehouse/files.Boot -/
def F5 (t0 : Value) (t1 : Value) (t2 : Value) (t3 : Value) (t4 : Value) (w : World) (K : Value → World → Prop) : Prop :=
  vBox 33 t1 w fun v6 w =>
  vBox 24 t3 w fun v8 w_2 =>
  vPtr .eql t0 (.pointer none) w_2 fun v15 =>
  vBool v15 fun c => if c = true then
   (K (.tuple #[(.pointer none), (.int .i64 4)]) w_2)
  else
  vFA (some 1) v6 fun v17 =>
  vLd .one v17 w_2 fun v18 =>
  vBuild Tryz.prog 54 [(0, t0), (1, v18)] fun v19 =>
  vBox 54 v19 w_2 fun v20 w_3 =>
  vLd (.agg 2) v6 w_3 fun v22 =>
  vLd (.agg 2) v8 w_3 fun v24 =>
  CallK Tryz.prog 15 #[v20, v22, t2, v24, t4] w_3 fun v26 w_4 =>
  vBin (.int .i64) .neq v26 (.int .i64 0) fun v28 =>
  vBool v28 fun c_2 => if c_2 = true then
   (K (.tuple #[(.pointer none), v26]) w_4)
  else
  K (.tuple #[v20, (.int .i64 0)]) w_4

def tab5 : Tab := { sel := [], plan := [], join := [] }

theorem F5_eq (t0 : Value) (t1 : Value) (t2 : Value) (t3 : Value) (t4 : Value) (w : World) (K : Value → World → Prop) : enterV Tryz.prog tab5 Tryz.f5 [t0, t1, t2, t3, t4] w K = F5 t0 t1 t2 t3 t4 w K := by kernel_rfl

theorem F5_ok {t0 : Value} {t1 : Value} {t2 : Value} {t3 : Value} {t4 : Value} {w : World} {K : Value → World → Prop} (h : F5 t0 t1 t2 t3 t4 w K) : Ret Tryz.prog 5 #[t0, t1, t2, t3, t4] w K :=
  enter_sound (T := tab5) (args := [t0, t1, t2, t3, t4]) Tryz.func5 Tryz.call5 mixed (by kernel_rfl) (by rw [F5_eq]; exact h)

/-- gatehouse/gatehouselaw14.one -/
def F6 (w : World) (K : Value → World → Prop) : Prop :=
  vAlloc Tryz.prog 24 w fun v0 w =>
  vBuild Tryz.prog 24 [(0, (.int .i64 2))] fun v1 =>
  vSt (some 2) v0 v1 w fun w_2 =>
  vLd (.agg 2) v0 w_2 fun r => K r w_2

def tab6 : Tab := { sel := [], plan := [], join := [] }

theorem F6_eq (w : World) (K : Value → World → Prop) : enterV Tryz.prog tab6 Tryz.f6 [] w K = F6 w K := by kernel_rfl

theorem F6_ok {w : World} {K : Value → World → Prop} (h : F6 w K) : Ret Tryz.prog 6 #[] w K :=
  enter_sound (T := tab6) (args := []) Tryz.func6 Tryz.call6 mixed (by kernel_rfl) (by rw [F6_eq]; exact h)

def F8J1 (K : Value → World → Prop) (ρ : Env) (ds : List Nat) (w : World) : Prop :=
  vFA (some 0) (ρ 2) fun v11 =>
  vLd .one v11 w fun v12 =>
  vFA (some 0) (ρ 3) fun v13 =>
  vLd .one v13 w fun v14 =>
  vBin (.int .i64) .eql v12 v14 fun v15 =>
  vBool v15 fun g => if g = true then
  (vFA (some 1) (ρ 2) fun v17 =>
  vLd .one v17 w fun v18 =>
  vFA (some 1) (ρ 3) fun v19 =>
  vLd .one v19 w fun v20 =>
  vBin .string .eql v18 v20 fun v21 =>
  vBool v21 fun g_2 => if g_2 = true then
  (vFA (some 8) (ρ 2) fun v24 =>
  vLd .one v24 w fun v25 =>
  vFA (some 8) (ρ 3) fun v26 =>
  vLd .one v26 w fun v27 =>
  CallK Tryz.prog 22 #[v25, v27] w fun v28 w_3 =>
  vBool v28 fun g_3 => if g_3 = true then
  (vFA (some 0) (ρ 5) fun v31 =>
  vLd .one v31 w_3 fun v32 =>
  vFA (some 0) (ρ 6) fun v33 =>
  vLd .one v33 w_3 fun v34 =>
  vBin (.int .i64) .eql v32 v34 fun v35 =>
  vBool v35 fun g_4 => if g_4 = true then
  (vFA (some 1) (ρ 5) fun v38 =>
  vLd .one v38 w_3 fun v39 =>
  vFA (some 1) (ρ 6) fun v40 =>
  vLd .one v40 w_3 fun v41 =>
  vBin (.int .i64) .eql v39 v41 fun v42 =>
  vBool v42 fun g_5 => if g_5 = true then
  (vFA (some 2) (ρ 5) fun v45 =>
  vLd .one v45 w_3 fun v46 =>
  vFA (some 2) (ρ 6) fun v47 =>
  vLd .one v47 w_3 fun v48 =>
  vBin (.int .i64) .eql v46 v48 fun v49 =>
  vBool v49 fun g_6 => if g_6 = true then
  (vFA (some 3) (ρ 5) fun v52 =>
  vLd .one v52 w_3 fun v53 =>
  vFA (some 3) (ρ 6) fun v54 =>
  vLd .one v54 w_3 fun v55 =>
  vBin (.int .i64) .eql v53 v55 fun v56 =>
  vBool v56 fun g_7 => if g_7 = true then
  (vFA (some 4) (ρ 5) fun v59 =>
  vLd (.agg 2) v59 w_3 fun v60 =>
  vFA (some 4) (ρ 6) fun v61 =>
  vLd (.agg 2) v61 w_3 fun v62 =>
  CallK Tryz.prog 23 #[v60, v62] w_3 fun v63 w_4 =>
  leaveV ds w_4 fun W => K v63 W)
  else
  (leaveV ds w_3 fun W => K (.bool false) W))
  else
  (leaveV ds w_3 fun W => K (.bool false) W))
  else
  (leaveV ds w_3 fun W => K (.bool false) W))
  else
  (leaveV ds w_3 fun W => K (.bool false) W))
  else
  (leaveV ds w_3 fun W => K (.bool false) W))
  else
  (leaveV ds w fun W => K (.bool false) W))
  else
  (leaveV ds w fun W => K (.bool false) W)

/-- gatehouse/gatehouselaw14.same -/
def F8 (t0 : Value) (t1 : Value) (w : World) (K : Value → World → Prop) : Prop :=
  vBox 40 t0 w fun v2 w =>
  vBox 40 t1 w fun v3 w_2 =>
  joinF [2, 3, 5, 6] (fun J1 =>
  drawF2 w_2 fun S T =>
  vFA (some 2) v2 fun v7 =>
  vLdS S (.agg 6) v7 fun v8 =>
  vFA (some 2) v3 fun v9 =>
  vLdS (fun w => S w ∨ T w) (.agg 6) v9 fun v10 =>
  (vAlloc Tryz.prog 37 w_2.drew fun v5 w_3 =>
  S w_3 ∧ ((vAlloc Tryz.prog 37 w_3 fun v6 w_4 =>
  S w_4 ∧ ((vSt (some 6) v5 v8 w_4 fun w_5 =>
  T w_5 ∧ ((vSt (some 6) v6 v10 w_5 fun w_6 =>
  (J1 [v2, v3, v5, v6] [] w_6)) ∧
  (True))) ∧
  (True))) ∧
  (True))) ∧
  ((vAlloc Tryz.prog 37 w_2.drew fun v6_2 w_7 =>
  S w_7 ∧ ((vAlloc Tryz.prog 37 w_7 fun v5_2 w_8 =>
  S w_8 ∧ ((vSt (some 6) v5_2 v8 w_8 fun w_9 =>
  T w_9 ∧ ((vSt (some 6) v6_2 v10 w_9 fun w_10 =>
  (J1 [v2, v3, v5_2, v6_2] [] w_10)) ∧
  (True))) ∧
  (True))) ∧
  (True))) ∧
  (True)))
  (F8J1 K)

def tab8 : Tab := { sel := [], plan := [(1, (.take 0 (.take 1 (.take 2 (.take 3 (.alt 4 (.alt 5 (.alt 6 (.alt 7 .done .stop) .stop) .stop) (.alt 5 (.alt 4 (.alt 6 (.alt 7 .done .stop) .stop) .stop) .stop)))))))], join := [(2, [2, 3, 5, 6])] }

theorem F8_eq (t0 : Value) (t1 : Value) (w : World) (K : Value → World → Prop) : enterV Tryz.prog tab8 Tryz.f8 [t0, t1] w K = F8 t0 t1 w K := by kernel_rfl

theorem F8_ok {t0 : Value} {t1 : Value} {w : World} {K : Value → World → Prop} (h : F8 t0 t1 w K) : Ret Tryz.prog 8 #[t0, t1] w K :=
  enter_sound (T := tab8) (args := [t0, t1]) Tryz.func8 Tryz.call8 mixed (by kernel_rfl) (by rw [F8_eq]; exact h)

/-- gatehouse/gatehouselaw14.who -/
def F16 (t0 : Value) (w : World) (K : Value → World → Prop) : Prop :=
  vBox 26 t0 w fun v1 w =>
  vFA (some 1) v1 fun v5 =>
  vLd .one v5 w fun v6 =>
  vConv (.int .u64) v6 fun v7 =>
  vBin (.int .u64) .rem v7 (.int .u64 5) fun v8 =>
  vConv (.int .i64) v8 fun v9 =>
  vBin (.int .i64) .eql v9 (.int .i64 0) fun v11 =>
  vBool v11 fun c => if c = true then
   (K (.tuple #[(.int .i64 3), (.int .i64 0)]) w)
  else
  vBin (.int .i64) .add (.int .i64 29) v9 fun v13 =>
  K (.tuple #[v13, v9]) w

def tab16 : Tab := { sel := [], plan := [], join := [] }

theorem F16_eq (t0 : Value) (w : World) (K : Value → World → Prop) : enterV Tryz.prog tab16 Tryz.f16 [t0] w K = F16 t0 w K := by kernel_rfl

theorem F16_ok {t0 : Value} {w : World} {K : Value → World → Prop} (h : F16 t0 w K) : Ret Tryz.prog 16 #[t0] w K :=
  enter_sound (T := tab16) (args := [t0]) Tryz.func16 Tryz.call16 mixed (by kernel_rfl) (by rw [F16_eq]; exact h)

def F22L1 (K : Value → World → Prop) (ρ : Env) (ds : List Nat) (w : World) (ag1 : List Value → List Nat → World → Prop) : Prop :=
  vBin (.int .i64) .lss (ρ 13) (ρ 12) fun v14 =>
  vBool v14 fun c_2 => if c_2 = true then
   (drawF w fun S =>
  vIA (.slice 3) (ρ 0) (ρ 13) fun v18 =>
  vLdS S (.agg 3) v18 fun v19 =>
  vIA (.slice 3) (ρ 1) (ρ 13) fun v22 =>
  vLdS S (.agg 3) v22 fun v23 =>
  vAggEq Tryz.prog 89 .neq v19 v23 fun v24 =>
  vBool v24 fun c_3 => if c_3 = true then
   (leaveV ds w.drew fun W => K (.bool false) W)
  else
  vBin (.int .i64) .add (ρ 13) (.int .i64 1) fun v25 =>
  ag1 [(ρ 0), (ρ 1), (ρ 12), v25] ds w.drew)
  else
  leaveV ds w fun W => K (.bool true) W

/-- gatehouse/gatehouseref13.Same -/
def F22 (t0 : Value) (t1 : Value) (w : World) (K : Value → World → Prop) : Prop :=
  vLen (.slice 3) t0 fun v7 =>
  vLen (.slice 3) t1 fun v9 =>
  vBin (.int .i64) .neq v7 v9 fun v10 =>
  vBool v10 fun c => if c = true then
   (K (.bool false) w)
  else
  vLen (.slice 3) t0 fun v12 =>
  loopF [0, 1, 12, 13] [t0, t1, v12, (.int .i64 0)] [] w (F22L1 K)

def tab22 : Tab := { sel := [(4, [0, 1, 12, 13])], plan := [(6, (.take 0 (.take 1 (.take 2 (.take 3 (.take 4 (.take 5 (.take 6 (.take 7 (.take 8 .done))))))))))], join := [] }

theorem F22_eq (t0 : Value) (t1 : Value) (w : World) (K : Value → World → Prop) : enterV Tryz.prog tab22 Tryz.f22 [t0, t1] w K = F22 t0 t1 w K := by kernel_rfl

theorem F22_ok {t0 : Value} {t1 : Value} {w : World} {K : Value → World → Prop} (h : F22 t0 t1 w K) : Ret Tryz.prog 22 #[t0, t1] w K :=
  enter_sound (T := tab22) (args := [t0, t1]) Tryz.func22 Tryz.call22 mixed (by kernel_rfl) (by rw [F22_eq]; exact h)

def F23L1 (K : Value → World → Prop) (ρ : Env) (ds : List Nat) (w : World) (ag1 : List Value → List Nat → World → Prop) : Prop :=
  vBin (.int .i64) .lss (ρ 23) (ρ 22) fun v24 =>
  vBool v24 fun c_2 => if c_2 = true then
   (drawF w fun S =>
  vFA (some 1) (ρ 2) fun v26 =>
  vLdS S .one v26 fun v27 =>
  vIA (.slice 2) v27 (ρ 23) fun v29 =>
  vLdS S (.agg 2) v29 fun v30 =>
  vFA (some 1) (ρ 3) fun v31 =>
  vLdS S .one v31 fun v32 =>
  vIA (.slice 2) v32 (ρ 23) fun v34 =>
  vLdS S (.agg 2) v34 fun v35 =>
  vAggEq Tryz.prog 108 .neq v30 v35 fun v36 =>
  vBool v36 fun c_3 => if c_3 = true then
   (leaveV ds w.drew fun W => K (.bool false) W)
  else
  vBin (.int .i64) .add (ρ 23) (.int .i64 1) fun v37 =>
  ag1 [(ρ 2), (ρ 3), (ρ 22), v37] ds w.drew)
  else
  leaveV ds w fun W => K (.bool true) W

def F23J1 (K : Value → World → Prop) (ρ : Env) (ds : List Nat) (w : World) : Prop :=
  vBool (ρ 19) fun c => if c = true then
   (leaveV ds w fun W => K (.bool false) W)
  else
  vFA (some 1) (ρ 2) fun v20 =>
  vLd .one v20 w fun v21 =>
  vLen (.slice 2) v21 fun v22 =>
  loopF [2, 3, 22, 23] [(ρ 2), (ρ 3), v22, (.int .i64 0)] ds w (F23L1 K)

/-- gatehouse/gatehouseref01.Same -/
def F23 (t0 : Value) (t1 : Value) (w : World) (K : Value → World → Prop) : Prop :=
  vBox 24 t0 w fun v2 w =>
  vBox 24 t1 w fun v3 w_2 =>
  joinF [2, 3, 19] (fun J1 =>
  vFA (some 0) v2 fun v6 =>
  vLd .one v6 w_2 fun v7 =>
  vFA (some 0) v3 fun v8 =>
  vLd .one v8 w_2 fun v9 =>
  vBin (.int .i64) .neq v7 v9 fun v10 =>
  vBool v10 fun g => if g = true then
  (J1 [v2, v3, (.bool true)] [] w_2)
  else
  (vFA (some 1) v2 fun v12 =>
  vLd .one v12 w_2 fun v13 =>
  vLen (.slice 2) v13 fun v14 =>
  vFA (some 1) v3 fun v15 =>
  vLd .one v15 w_2 fun v16 =>
  vLen (.slice 2) v16 fun v17 =>
  vBin (.int .i64) .neq v14 v17 fun v18 =>
  J1 [v2, v3, v18] [] w_2))
  (F23J1 K)

def tab23 : Tab := { sel := [(4, [2, 3, 22, 23])], plan := [(6, (.take 0 (.take 1 (.take 2 (.take 3 (.take 4 (.take 5 (.take 6 (.take 7 (.take 8 (.take 9 (.take 10 .done))))))))))))], join := [(2, [2, 3, 19])] }

theorem F23_eq (t0 : Value) (t1 : Value) (w : World) (K : Value → World → Prop) : enterV Tryz.prog tab23 Tryz.f23 [t0, t1] w K = F23 t0 t1 w K := by kernel_rfl

theorem F23_ok {t0 : Value} {t1 : Value} {w : World} {K : Value → World → Prop} (h : F23 t0 t1 w K) : Ret Tryz.prog 23 #[t0, t1] w K :=
  enter_sound (T := tab23) (args := [t0, t1]) Tryz.func23 Tryz.call23 mixed (by kernel_rfl) (by rw [F23_eq]; exact h)

end Go.Proofs.YtelkbliggjfdaaaGreatDoor
