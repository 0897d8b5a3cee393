import Derived.Test.YtdkklhnleppfcaaGreatSg05
import Derived.Test.YtdkklhnleppfcaaGreatProg
import Derived.Test.YtdkklhnleppfcaaGreatSg14
set_option linter.unusedVariables false
set_option linter.unusedSimpArgs false

set_option linter.unusedVariables false
namespace Go.Proofs.YtdkklhnleppfcaaGreat
open Go Go.V
theorem mixed : Tryz.prog.follows .mixedOrders = true := by kernel_rfl
set_option maxRecDepth 100000

def F182L2 (ag1 : List Value → List Nat → World → Prop) (ρ : Env) (ds : List Nat) (w : World) (ag2 : List Value → List Nat → World → Prop) : Prop :=
  vBin (.int .i64) .lss (ρ 11) (.int .i64 8) fun v12 =>
  vBool v12 fun c_2 => if c_2 = true then
   (vIx .string .bad (ρ 0) (ρ 11) fun v17 =>
  vConv (.int .i64) v17 fun v18 =>
  vBin (.int .i64) .mul (.int .i64 8) (ρ 11) fun v20 =>
  vBin (.int .i64) .shl v18 v20 fun v21 =>
  vBin (.int .i64) .or (ρ 4) v21 fun v22 =>
  vBin (.int .i64) .add (ρ 11) (.int .i64 1) fun v23 =>
  ag2 [(ρ 0), (ρ 3), v22, v23] ds w)
  else
  vBuildSlice Tryz.prog 42 1 [(0, (ρ 4))] w fun v26 w =>
  vAppend Tryz.prog 42 42 (ρ 3) v26 w fun v27 w_2 =>
  vSlice .string (ρ 0) (some (.int .i64 8)) none fun v10 =>
  ag1 [v10, v27] ds w_2

def F182L1 (K : Value → World → Prop) (ρ : Env) (ds : List Nat) (w : World) (ag1 : List Value → List Nat → World → Prop) : Prop :=
  vLen .string (ρ 0) fun v7 =>
  vBin (.int .i64) .geq v7 (.int .i64 8) fun v8 =>
  vBool v8 fun c => if c = true then
   (loopF [0, 3, 4, 11] [(ρ 0), (ρ 3), (.int .i64 0), (.int .i64 0)] ds w (F182L2 ag1))
  else
  leaveV ds w fun W => K (ρ 3) W

def F182 (t0 : Value) (w : World) (K : Value → World → Prop) : Prop :=
  loopF [0, 3] [t0, (.slice none 0 0)] [] w (F182L1 K)

def tab182 : Tab := { sel := [(6, [0, 3, 4, 11]), (2, [0, 3])], plan := [], join := [] }

theorem F182_eq (t0 : Value) (w : World) (K : Value → World → Prop) : enterV Tryz.prog tab182 Tryz.f182 [t0] w K = F182 t0 w K := by kernel_rfl

theorem F182_ok {t0 : Value} {w : World} {K : Value → World → Prop} (h : F182 t0 w K) : Ret Tryz.prog 182 #[t0] w K :=
  enter_sound (T := tab182) (args := [t0]) Tryz.func182 Tryz.call182 mixed (by kernel_rfl) (by rw [F182_eq]; exact h)

end Go.Proofs.YtdkklhnleppfcaaGreat

/-
  Procs: numbers.List does what the executor does at once in its place. Own work.
-/
set_option linter.unusedVariables false
set_option linter.unusedSimpArgs false
set_option maxRecDepth 100000
namespace Go.Proofs.YtdkklhnleppfcaaGreat
open Go Go.V Go.X Go.RowKit

theorem eInts : E1 Tryz.prog 42 3 (it 0) := ⟨by kernel_rfl, infoOf (by kernel_rfl), by kernel_rfl, by kernel_rfl⟩

theorem le_take {l : List UInt8} {i : Nat} {b : UInt8} (hb : l[i]? = some b) : l.take (i + 1) = l.take i ++ [b] := by
  rw [List.take_add_one, hb]; rfl

theorem list_ok : ListOK Tryz.prog 182 := by
  intro L w K h8 hmax hK
  apply Ret.call
  apply F182_ok
  unfold F182
  have hL := (Lx.start (fun _ => False) w).nilRow
  refine ⟨fun vs ds W => ds = [] ∧ ∃ (l : List UInt8) (done : List Int) (v : Value) (bl : Option Nat), vs = [str l, v] ∧ l.length ≤ L.length ∧ 8 * done.length + l.length = L.length ∧ done ++ leInts (l.length / 8) l = leInts (L.length / 8) L ∧
      Lx (fun _ => False) w W [.row v (done.map fun n => .int .i64 n) bl],
    fun vs _ _ => match vs with | [.string s, _] => s.size | _ => 0, ⟨rfl, L, [], _, none, rfl, Nat.le_refl _, by simp, rfl, hL⟩, ?_⟩
  rintro ρ ds W ⟨rfl, l, done, v, bl, hρ, hl, hlen, hd, hL⟩
  rw [hρ]
  simp only [List.map_cons, List.map_nil, List.cons.injEq, and_true] at hρ
  obtain ⟨e0, e3⟩ := hρ
  unfold F182L1
  simp only [e0, e3]
  refine rLenB <| rGe <| sIfD (fun hge => ?_) (fun hlt => ?_)
  · have hge : 8 ≤ l.length := by omega
    refine ⟨fun vs ds W' => ds = [] ∧ ∃ (i : Nat), i ≤ 8 ∧ vs = [str l, v, it (leAcc 0 0 (l.take i)), it i] ∧ W' = W,
      fun vs _ _ => match vs with | [_, _, _, .int _ i] => 8 - i.toNat | _ => 0, ⟨rfl, 0, by omega, by simp [leAcc], rfl⟩, ?_⟩
    rintro ρ' ds' W' ⟨rfl, i, hi, hρ', rfl⟩
    rw [hρ']
    simp only [List.map_cons, List.map_nil, List.cons.injEq, and_true] at hρ'
    obtain ⟨e0', e3', e4', e11'⟩ := hρ'
    unfold F182L2
    simp only [e0', e3', e4', e11']
    refine rLt <| sIfD (fun hlt => ?_) (fun hnl => ?_)
    · have hlt : i < 8 := by omega
      obtain ⟨b, hb⟩ : ∃ b, l[i]? = some b := ⟨_, List.getElem?_eq_getElem (by omega)⟩
      refine rIxS hb ?_
      refine rCv ⟨rfl, ⟨?_, ?_⟩⟩
      · show (0 : Int) ≤ IntKind.i64.wrap (8 * (i : Int))
        rw [wrap_id (by omega) (by omega)]; omega
      · refine ⟨rfl, ?_⟩
        refine rAdd (by omega) (by omega) ⟨⟨by trivial, i + 1, by omega, ?_, by trivial⟩, by simp; omega⟩
        rw [le_take hb, leAcc_snoc]
        have : (l.take i).length = i := by rw [List.length_take]; omega
        rw [this, Nat.zero_add]
        rfl
    · have hi : i = 8 := by omega
      subst hi
      refine sApp1 eInts hL (i := 0) rfl rfl (by simp; omega) (fun w2 v2 bl2 hL hne2 => ?_)
      refine rSlStrLo (by omega) ⟨⟨by trivial, l.drop 8, done ++ [leAcc 0 0 (l.take 8)], v2, bl2, rfl, by simp; omega, by simp; omega, ?_, ?_⟩, by simp [ByteArray.size]; omega⟩
      · rw [← hd]
        have e : l.length / 8 = (l.drop 8).length / 8 + 1 := by rw [List.length_drop]; omega
        rw [e]
        show _ = done ++ (leAcc 0 0 (l.take 8) :: leInts _ (l.drop 8))
        simp
      · rw [List.map_append]
        exact hL
  · have hz : l.length / 8 = 0 := by omega
    rw [hz] at hd
    simp only [leInts, List.append_nil] at hd
    have hdl : done.length = L.length / 8 := by rw [hd, leInts_len]
    cases bl with
    | none =>
      have hr := hL.row (i := 0) rfl
      have h0 := hr.2
      have : done = [] := by simpa using h0
      rw [this] at hdl
      simp at hdl
      omega
    | some b =>
      refine hK W v b ?_ ((hL.mine _ (List.mem_singleton.2 rfl) b rfl).elim False.elim id) hL.fr
      rw [← hd]
      exact hL.row (i := 0) rfl
end Go.Proofs.YtdkklhnleppfcaaGreat

set_option linter.unusedVariables false
namespace Go.Proofs.YtdkklhnleppfcaaGreat
open Go Go.V
set_option maxRecDepth 100000

def F133R1a (r : Option Nat) (ρ : Env) (w : World) (Q : QV) : Prop :=
  vAlloc Tryz.prog 288 w fun v10 w_7 =>
  vSt (some 2) v10 (ρ 26) w_7 fun w_8 =>
  Q .normal (put (put ρ (some 9) (ρ 25)) (some 10) v10) [] w_8

def F133R1b (r : Option Nat) (ρ : Env) (w : World) (Q1 : Exit → World → Prop) : Prop :=
  drawF w fun S =>
  vLdS S .one (ρ 7) fun v27 =>
  vLdS S .one (ρ 3) fun v28 =>
  vIA (.arr 2 1) (ρ 10) (.int .i64 0) fun v32 =>
  vLdS S .one v32 fun v33 =>
  vIA (.arr 2 1) (ρ 10) (.int .i64 1) fun v34 =>
  vLdS S .one v34 fun v35 =>
  vLdS S .one (ρ 7) fun v37 =>
  (CallK Tryz.prog 210 #[v28, (ρ 9)] w.drew fun v30 w_7 =>
  S w_7 ∧ (vNilP Tryz.prog v30 fun v31 =>
  vSlice (.arr 64 1) v31 (some v33) (some v35) fun v36 =>
  (vCopy Tryz.prog 283 v36 v37 w_7 fun v38 w_8 =>
  S w_8 ∧ (vSlice .string v27 (some v38) none fun v39 =>
  (vSt (some 1) (ρ 7) v39 w_8 fun w_9 =>
  (Q1 .normal w_9)) ∧
  (True))) ∧
  (True))) ∧
  (True)

def F133 (t0 : Value) (t1 : Value) (t2 : Value) (w : World) (K : Value → World → Prop) : Prop :=
  vBox 165 t0 w fun v3 w =>
  CallK Tryz.prog 209 #[t2, (.string ⟨#[]⟩)] w fun v12 w_2 =>
  vAlloc Tryz.prog 9 w_2 fun v7 w_3 =>
  vSt (some 1) v7 v12 w_3 fun w_4 =>
  vLd .one v3 w_4 fun v13 =>
  vLd .one v7 w_4 fun v15 =>
  vLen .string v15 fun v16 =>
  CallK Tryz.prog 149 #[v13, t1, v16] w_4 fun v17 w_5 =>
  vBin (.int .i64) .neq v17 (.int .i64 0) fun v19 =>
  vBool v19 fun c => if c = true then
   (K v17 w_5)
  else
  vLd .one v7 w_5 fun v22 =>
  vLen .string v22 fun v23 =>
  CallK Tryz.prog 150 #[t1, v23] w_5 fun v24 w_6 =>
  rangeF Tryz.prog none [3, 7] [v3, v7] [25, 26] F133R1a F133R1b v24 [] w_6
  (fun ds w_10 => leaveV ds w_10 fun W => K (.int .i64 0) W)
  (fun _ _ => False)
  []

def tab133 : Tab := { sel := [(6, [3, 7])], plan := [(8, (.take 0 (.take 1 (.take 2 (.take 5 (.take 6 (.take 7 (.take 8 (.take 10 (.alt 3 (.take 4 (.take 9 (.alt 11 (.take 12 (.alt 13 .done .stop)) .stop))) .stop))))))))))], join := [] }

theorem F133_eq (t0 : Value) (t1 : Value) (t2 : Value) (w : World) (K : Value → World → Prop) : enterV Tryz.prog tab133 Tryz.f133 [t0, t1, t2] w K = F133 t0 t1 t2 w K := by kernel_rfl

theorem F133_ok {t0 : Value} {t1 : Value} {t2 : Value} {w : World} {K : Value → World → Prop} (h : F133 t0 t1 t2 w K) : Ret Tryz.prog 133 #[t0, t1, t2] w K :=
  enter_sound (T := tab133) (args := [t0, t1, t2]) Tryz.func133 Tryz.call133 mixed (by kernel_rfl) (by rw [F133_eq]; exact h)

def F70R1a (r : Option Nat) (ρ : Env) (w : World) (Q : QV) : Prop :=
  vAlloc Tryz.prog 288 w fun v11 w_5 =>
  vSt (some 2) v11 (ρ 23) w_5 fun w_6 =>
  Q .normal (put (put ρ (some 10) (ρ 22)) (some 11) v11) [] w_6

def F70R1b (r : Option Nat) (ρ : Env) (w : World) (Q1 : Exit → World → Prop) : Prop :=
  drawF w fun S =>
  vLdS S .one (ρ 3) fun v24 =>
  vNilP Tryz.prog v24 fun v25 =>
  vFA (some 1) v25 fun v26 =>
  vLdS S .one v26 fun v27 =>
  vIA (.slice 1) v27 (ρ 10) fun v29 =>
  vLdS S .one v29 fun v30 =>
  vNilP Tryz.prog v30 fun v31 =>
  vIA (.arr 2 1) (ρ 11) (.int .i64 0) fun v32 =>
  vLdS S .one v32 fun v33 =>
  vIA (.arr 2 1) (ρ 11) (.int .i64 1) fun v34 =>
  vLdS S .one v34 fun v35 =>
  vSlice (.arr 64 1) v31 (some v33) (some v35) fun v36 =>
  (CallK Tryz.prog 151 #[(ρ 9), v36] w.drew fun v37 w_5 =>
  S w_5 ∧ (Q1 .normal w_5)) ∧
  (True)

def F70 (t0 : Value) (t1 : Value) (t2 : Value) (w : World) (K : Value → World → Prop) : Prop :=
  vBox 165 t0 w fun v3 w =>
  vLd .one v3 w fun v12 =>
  CallK Tryz.prog 149 #[v12, t1, t2] w fun v15 w_2 =>
  vBin (.int .i64) .neq v15 (.int .i64 0) fun v17 =>
  vBool v17 fun c => if c = true then
   (K (.tuple #[(.string ⟨#[]⟩), v15]) w_2)
  else
  vAlloc Tryz.prog 285 w_2 fun v9 w_3 =>
  CallK Tryz.prog 150 #[t1, t2] w_3 fun v21 w_4 =>
  rangeF Tryz.prog none [3, 9] [v3, v9] [22, 23] F70R1a F70R1b v21 [] w_4
  (fun ds w_6 => CallK Tryz.prog 152 #[v9] w_6 fun v38 w_7 =>
  leaveV ds w_7 fun W => K (.tuple #[v38, (.int .i64 0)]) W)
  (fun _ _ => False)
  []

def tab70 : Tab := { sel := [(6, [3, 9])], plan := [(8, (.take 0 (.take 1 (.take 2 (.take 3 (.take 4 (.take 5 (.take 6 (.take 7 (.take 8 (.take 9 (.take 10 (.take 11 (.take 12 (.alt 13 .done .stop)))))))))))))))], join := [] }

theorem F70_eq (t0 : Value) (t1 : Value) (t2 : Value) (w : World) (K : Value → World → Prop) : enterV Tryz.prog tab70 Tryz.f70 [t0, t1, t2] w K = F70 t0 t1 t2 w K := by kernel_rfl

theorem F70_ok {t0 : Value} {t1 : Value} {t2 : Value} {w : World} {K : Value → World → Prop} (h : F70 t0 t1 t2 w K) : Ret Tryz.prog 70 #[t0, t1, t2] w K :=
  enter_sound (T := tab70) (args := [t0, t1, t2]) Tryz.func70 Tryz.call70 mixed (by kernel_rfl) (by rw [F70_eq]; exact h)

def F209L2 (K : Value → World → Prop) (ρ : Env) (ds : List Nat) (w : World) (ag2 : List Value → List Nat → World → Prop) : Prop :=
  vBin (.int .i64) .lss (ρ 65) (ρ 64) fun v66 =>
  vBool v66 fun c_5 => if c_5 = true then
   (vIA (.slice 1) (ρ 63) (ρ 65) fun v67 =>
  vLd .one v67 w fun v68 =>
  CallK Tryz.prog 279 #[(ρ 8), (ρ 1)] w fun v70 w_4 =>
  CallK Tryz.prog 279 #[(ρ 8), v68] w_4 fun v72 w_5 =>
  vBin (.int .i64) .add (ρ 65) (.int .i64 1) fun v73 =>
  ag2 [(ρ 1), (ρ 8), (ρ 63), (ρ 64), v73] ds w_5)
  else
  CallK Tryz.prog 152 #[(ρ 8)] w fun v74 w_6 =>
  leaveV ds w_6 fun W => K v74 W

def F209L1 (K : Value → World → Prop) (ρ : Env) (ds : List Nat) (w : World) (ag1 : List Value → List Nat → World → Prop) : Prop :=
  vBin (.int .i64) .lss (ρ 41) (ρ 40) fun v42 =>
  vBool v42 fun c_3 => if c_3 = true then
   (vIA (.slice 1) (ρ 39) (ρ 41) fun v43 =>
  vLd .one v43 w fun v44 =>
  vLen .string v44 fun v46 =>
  vBin (.int .i64) .sub (.int .i64 9223372036854775807) (ρ 5) fun v48 =>
  vBin (.int .i64) .gtr v46 v48 fun v49 =>
  vBool v49 fun c_4 => if c_4 = true then
   (vIface true 9 (.string ⟨#[115, 116, 114, 105, 110, 103, 115, 58, 32, 74, 111, 105, 110, 32, 111, 117, 116, 112, 117, 116, 32, 108, 101, 110, 103, 116, 104, 32, 111, 118, 101, 114, 102, 108, 111, 119]⟩) fun v50 =>
   False)
  else
  vLen .string v44 fun v53 =>
  vBin (.int .i64) .add (ρ 5) v53 fun v54 =>
  vBin (.int .i64) .add (ρ 41) (.int .i64 1) fun v55 =>
  ag1 [(ρ 0), (ρ 1), v54, (ρ 39), (ρ 40), v55] ds w)
  else
  vAlloc Tryz.prog 285 w fun v8 w =>
  CallK Tryz.prog 278 #[v8, (ρ 5)] w fun v57 w_2 =>
  vIA (.slice 1) (ρ 0) (.int .i64 0) fun v59 =>
  vLd .one v59 w_2 fun v60 =>
  CallK Tryz.prog 279 #[v8, v60] w_2 fun v61 w_3 =>
  vSlice (.slice 1) (ρ 0) (some (.int .i64 1)) none fun v63 =>
  vLen (.slice 1) v63 fun v64 =>
  loopF [1, 8, 63, 64, 65] [(ρ 1), v8, v63, v64, (.int .i64 0)] ds w_3 (F209L2 K)

def F209J1 (K : Value → World → Prop) (ρ : Env) (ds : List Nat) (w : World) : Prop :=
  vLen (.slice 1) (ρ 0) fun v40 =>
  loopF [0, 1, 5, 39, 40, 41] [(ρ 0), (ρ 1), (ρ 5), (ρ 0), v40, (.int .i64 0)] ds w (F209L1 K)

def F209 (t0 : Value) (t1 : Value) (w : World) (K : Value → World → Prop) : Prop :=
  vLen (.slice 1) t0 fun v12 =>
  vBin (.int .i64) .eql v12 (.int .i64 0) fun v14 =>
  vBool v14 fun c => if c = true then
   (K (.string ⟨#[]⟩) w)
  else
  vBin (.int .i64) .eql v12 (.int .i64 1) fun v16 =>
  vBool v16 fun c_2 => if c_2 = true then
   (vIA (.slice 1) t0 (.int .i64 0) fun v18 =>
   vLd .one v18 w fun v19 =>
   K v19 w)
  else
  joinF [0, 1, 5] (fun J1 =>
  vLen .string t1 fun v21 =>
  vBin (.int .i64) .gtr v21 (.int .i64 0) fun v22 =>
  vBool v22 fun c_3 => if c_3 = true then
   (vLen .string t1 fun v24 =>
   vLen (.slice 1) t0 fun v26 =>
   vBin (.int .i64) .sub v26 (.int .i64 1) fun v27 =>
   vBin (.int .i64) .quo (.int .i64 9223372036854775807) v27 fun v28 =>
   vBin (.int .i64) .geq v24 v28 fun v29 =>
   vBool v29 fun c_4 => if c_4 = true then
    (vIface true 9 (.string ⟨#[115, 116, 114, 105, 110, 103, 115, 58, 32, 74, 111, 105, 110, 32, 111, 117, 116, 112, 117, 116, 32, 108, 101, 110, 103, 116, 104, 32, 111, 118, 101, 114, 102, 108, 111, 119]⟩) fun v30 =>
    False)
   else
   vLen .string t1 fun v33 =>
   vLen (.slice 1) t0 fun v35 =>
   vBin (.int .i64) .sub v35 (.int .i64 1) fun v36 =>
   vBin (.int .i64) .mul v33 v36 fun v37 =>
   vBin (.int .i64) .add (.int .i64 0) v37 fun v38 =>
   J1 [t0, t1, v38] [] w)
  else
  J1 [t0, t1, (.int .i64 0)] [] w)
  (F209J1 K)

def tab209 : Tab := { sel := [(22, [1, 8, 63, 64, 65]), (12, [0, 1, 5, 39, 40, 41])], plan := [], join := [(11, [0, 1, 5])] }

theorem F209_eq (t0 : Value) (t1 : Value) (w : World) (K : Value → World → Prop) : enterV Tryz.prog tab209 Tryz.f209 [t0, t1] w K = F209 t0 t1 w K := by kernel_rfl

theorem F209_ok {t0 : Value} {t1 : Value} {w : World} {K : Value → World → Prop} (h : F209 t0 t1 w K) : Ret Tryz.prog 209 #[t0, t1] w K :=
  enter_sound (T := tab209) (args := [t0, t1]) Tryz.func209 Tryz.call209 mixed (by kernel_rfl) (by rw [F209_eq]; exact h)

def F149 (t0 : Value) (t1 : Value) (t2 : Value) (w : World) (K : Value → World → Prop) : Prop :=
  vPtr .eql t0 (.pointer none) w fun v9 =>
  vBool v9 fun c => if c = true then
   (K (.int .i64 4) w)
  else
  vBin (.int .i64) .lss t1 (.int .i64 0) fun v12 =>
  vBool v12 fun g => if g = true then
  (K (.int .i64 9) w)
  else
  (vBin (.int .i64) .lss t2 (.int .i64 0) fun v15 =>
  vBool v15 fun g_2 => if g_2 = true then
  (K (.int .i64 9) w)
  else
  (vNilP Tryz.prog t0 fun v20 =>
  vFA (some 0) v20 fun v21 =>
  vLd .one v21 w fun v22 =>
  vBin (.int .i64) .gtr t1 v22 fun v23 =>
  vBool v23 fun g_3 => if g_3 = true then
  (K (.int .i64 9) w)
  else
  (vNilP Tryz.prog t0 fun v28 =>
  vFA (some 0) v28 fun v29 =>
  vLd .one v29 w fun v30 =>
  vBin (.int .i64) .sub v30 t1 fun v32 =>
  vBin (.int .i64) .gtr t2 v32 fun v33 =>
  vBool v33 fun c_2 => if c_2 = true then
   (K (.int .i64 9) w)
  else
  K (.int .i64 0) w)))

def tab149 : Tab := { sel := [], plan := [], join := [] }

theorem F149_eq (t0 : Value) (t1 : Value) (t2 : Value) (w : World) (K : Value → World → Prop) : enterV Tryz.prog tab149 Tryz.f149 [t0, t1, t2] w K = F149 t0 t1 t2 w K := by kernel_rfl

theorem F149_ok {t0 : Value} {t1 : Value} {t2 : Value} {w : World} {K : Value → World → Prop} (h : F149 t0 t1 t2 w K) : Ret Tryz.prog 149 #[t0, t1, t2] w K :=
  enter_sound (T := tab149) (args := [t0, t1, t2]) Tryz.func149 Tryz.call149 mixed (by kernel_rfl) (by rw [F149_eq]; exact h)

def F150 (t0 : Value) (t1 : Value) (w : World) (K : Value → World → Prop) : Prop :=
  vBox 3 t0 w fun v2 w =>
  vBox 3 t1 w fun v3 w_2 =>
  K (.func (.func 232) #[] #[v3, v2]) w_2

def tab150 : Tab := { sel := [], plan := [], join := [] }

theorem F150_eq (t0 : Value) (t1 : Value) (w : World) (K : Value → World → Prop) : enterV Tryz.prog tab150 Tryz.f150 [t0, t1] w K = F150 t0 t1 w K := by kernel_rfl

theorem F150_ok {t0 : Value} {t1 : Value} {w : World} {K : Value → World → Prop} (h : F150 t0 t1 w K) : Ret Tryz.prog 150 #[t0, t1] w K :=
  enter_sound (T := tab150) (args := [t0, t1]) Tryz.func150 Tryz.call150 mixed (by kernel_rfl) (by rw [F150_eq]; exact h)

def F210 (t0 : Value) (t1 : Value) (w : World) (K : Value → World → Prop) : Prop :=
  vNilP Tryz.prog t0 fun v7 =>
  vFA (some 2) v7 fun v8 =>
  vLd .one v8 w fun v9 =>
  vIA (.slice 1) v9 t1 fun v11 =>
  vLd .one v11 w fun v12 =>
  vUn .not v12 fun v13 =>
  vBool v13 fun c => if c = true then
   (vNilP Tryz.prog t0 fun v15 =>
   vFA (some 1) v15 fun v16 =>
   vLd .one v16 w fun v17 =>
   vIA (.slice 1) v17 t1 fun v19 =>
   vLd .one v19 w fun v20 =>
   vNilP Tryz.prog v20 fun v21 =>
   vLd (.agg 64) v21 w fun v22 =>
   vAlloc Tryz.prog 403 w fun v5 w =>
   vSt (some 64) v5 v22 w fun w_2 =>
   drawF w_2 fun S =>
   vNilP Tryz.prog t0 fun v24 =>
   vFA (some 1) v24 fun v25 =>
   vLdS S .one v25 fun v26 =>
   vNilP Tryz.prog t0 fun v29 =>
   vFA (some 2) v29 fun v30 =>
   vLdS S .one v30 fun v31 =>
   vIA (.slice 1) v26 t1 fun v33 =>
   (vSt (some 1) v33 v5 w_2.drew fun w_3 =>
   (vIA (.slice 1) v31 t1 fun v34 =>
   (vSt (some 1) v34 (.bool true) w_3 fun w_4 =>
   (vNilP Tryz.prog t0 fun v36 =>
  vFA (some 1) v36 fun v37 =>
  vLd .one v37 w_4 fun v38 =>
  vIA (.slice 1) v38 t1 fun v40 =>
  vLd .one v40 w_4 fun v41 =>
  K v41 w_4)) ∧
   (True))) ∧
   (True))
  else
  vNilP Tryz.prog t0 fun v36_2 =>
  vFA (some 1) v36_2 fun v37_2 =>
  vLd .one v37_2 w fun v38_2 =>
  vIA (.slice 1) v38_2 t1 fun v40_2 =>
  vLd .one v40_2 w fun v41_2 =>
  K v41_2 w

def tab210 : Tab := { sel := [], plan := [(3, (.take 0 (.take 1 (.take 2 (.take 3 (.take 4 (.take 5 (.take 6 (.take 7 (.take 8 (.take 9 (.take 10 (.alt 11 (.take 12 (.alt 13 .done .stop)) .stop)))))))))))))], join := [] }

theorem F210_eq (t0 : Value) (t1 : Value) (w : World) (K : Value → World → Prop) : enterV Tryz.prog tab210 Tryz.f210 [t0, t1] w K = F210 t0 t1 w K := by kernel_rfl

theorem F210_ok {t0 : Value} {t1 : Value} {w : World} {K : Value → World → Prop} (h : F210 t0 t1 w K) : Ret Tryz.prog 210 #[t0, t1] w K :=
  enter_sound (T := tab210) (args := [t0, t1]) Tryz.func210 Tryz.call210 mixed (by kernel_rfl) (by rw [F210_eq]; exact h)

def F151 (t0 : Value) (t1 : Value) (w : World) (K : Value → World → Prop) : Prop :=
  CallK Tryz.prog 233 #[t0] w fun v7 w =>
  vNilP Tryz.prog t0 fun v10 =>
  vFA (some 1) v10 fun v11 =>
  vLd .one v11 w fun v12 =>
  vAppend Tryz.prog 283 283 v12 t1 w fun v14 w_2 =>
  vNilP Tryz.prog t0 fun v15 =>
  vFA (some 1) v15 fun v16 =>
  vSt (some 1) v16 v14 w_2 fun w_3 =>
  vLen (.slice 1) t1 fun v18 =>
  K (.tuple #[v18, .nilIface]) w_3

def tab151 : Tab := { sel := [], plan := [], join := [] }

theorem F151_eq (t0 : Value) (t1 : Value) (w : World) (K : Value → World → Prop) : enterV Tryz.prog tab151 Tryz.f151 [t0, t1] w K = F151 t0 t1 w K := by kernel_rfl

theorem F151_ok {t0 : Value} {t1 : Value} {w : World} {K : Value → World → Prop} (h : F151 t0 t1 w K) : Ret Tryz.prog 151 #[t0, t1] w K :=
  enter_sound (T := tab151) (args := [t0, t1]) Tryz.func151 Tryz.call151 mixed (by kernel_rfl) (by rw [F151_eq]; exact h)

def F152 (t0 : Value) (w : World) (K : Value → World → Prop) : Prop :=
  drawF w fun S =>
  vNilP Tryz.prog t0 fun v4 =>
  vFA (some 1) v4 fun v5 =>
  vLdS S .one v5 fun v6 =>
  vUSD v6 fun v7 =>
  vNilP Tryz.prog t0 fun v9 =>
  vFA (some 1) v9 fun v10 =>
  vLdS S .one v10 fun v11 =>
  vLen (.slice 1) v11 fun v12 =>
  (vUStr Tryz.prog 380 v7 v12 w.drew fun v13 w =>
  S w ∧ (K v13 w)) ∧
  (True)

def tab152 : Tab := { sel := [], plan := [(1, (.take 0 (.take 1 (.take 2 (.take 3 (.take 4 (.take 5 (.take 6 (.take 7 (.take 8 (.take 9 (.alt 10 (.take 11 .done) .stop))))))))))))], join := [] }

theorem F152_eq (t0 : Value) (w : World) (K : Value → World → Prop) : enterV Tryz.prog tab152 Tryz.f152 [t0] w K = F152 t0 w K := by kernel_rfl

theorem F152_ok {t0 : Value} {w : World} {K : Value → World → Prop} (h : F152 t0 w K) : Ret Tryz.prog 152 #[t0] w K :=
  enter_sound (T := tab152) (args := [t0]) Tryz.func152 Tryz.call152 mixed (by kernel_rfl) (by rw [F152_eq]; exact h)

def F232L1 (K : Value → World → Prop) (ρ : Env) (ds : List Nat) (w : World) (ag1 : List Value → List Nat → World → Prop) : Prop :=
  vLd .one (ρ 1) w fun v6 =>
  vBin (.int .i64) .gtr v6 (.int .i64 0) fun v7 =>
  vBool v7 fun c => if c = true then
   (vLd .one (ρ 2) w fun v8 =>
  vBin (.int .i64) .rem v8 (.int .i64 64) fun v9 =>
  vLd .one (ρ 1) w fun v11 =>
  vBin (.int .i64) .add v9 v11 fun v12 =>
  vMin v12 [(.int .i64 64)] fun v13 =>
  vLd .one (ρ 2) w fun v15 =>
  vBin (.int .i64) .quo v15 (.int .i64 64) fun v16 =>
  vBuild Tryz.prog 288 [(0, v9), (1, v13)] fun v19 =>
  vCallV Tryz.prog (ρ 0) [v16, v19] w fun v20 w =>
  vUn .not v20 fun v21 =>
  vBool v21 fun c_2 => if c_2 = true then
   (leaveV ds w fun W => K (.tuple #[]) W)
  else
  vLd .one (ρ 2) w fun v22 =>
  vBin (.int .i64) .sub v13 v9 fun v25 =>
  vBin (.int .i64) .add v22 v25 fun v26 =>
  vSt (some 1) (ρ 2) v26 w fun w_2 =>
  vLd .one (ρ 1) w_2 fun v27 =>
  vBin (.int .i64) .sub v13 v9 fun v30 =>
  vBin (.int .i64) .sub v27 v30 fun v31 =>
  vSt (some 1) (ρ 1) v31 w_2 fun w_3 =>
  ag1 [(ρ 0), (ρ 1), (ρ 2)] ds w_3)
  else
  leaveV ds w fun W => K (.tuple #[]) W

def F232 (t0 : Value) (t1 : Value) (t2 : Value) (w : World) (K : Value → World → Prop) : Prop :=
  loopF [0, 1, 2] [t0, t1, t2] [] w (F232L1 K)

def tab232 : Tab := { sel := [(0, [0, 1, 2])], plan := [], join := [] }

theorem F232_eq (t0 : Value) (t1 : Value) (t2 : Value) (w : World) (K : Value → World → Prop) : enterV Tryz.prog tab232 Tryz.f232 [t0, t1, t2] w K = F232 t0 t1 t2 w K := by kernel_rfl

theorem F232_ok {t0 : Value} {t1 : Value} {t2 : Value} {w : World} {K : Value → World → Prop} (h : F232 t0 t1 t2 w K) : Ret Tryz.prog 232 #[t0, t1, t2] w K :=
  enter_sound (T := tab232) (args := [t0, t1, t2]) Tryz.func232 Tryz.call232 mixed (by kernel_rfl) (by rw [F232_eq]; exact h)

def F233 (t0 : Value) (w : World) (K : Value → World → Prop) : Prop :=
  vNilP Tryz.prog t0 fun v3 =>
  vFA (some 0) v3 fun v4 =>
  vLd .one v4 w fun v5 =>
  vPtr .eql v5 (.pointer none) w fun v6 =>
  vBool v6 fun c => if c = true then
   (vToU t0 w fun v9 =>
   CallK Tryz.prog 286 #[v9] w fun v10 w =>
   vFromU Tryz.prog 285 v10 w fun v11 =>
   vNilP Tryz.prog t0 fun v12 =>
   vFA (some 0) v12 fun v13 =>
   vSt (some 1) v13 v11 w fun w_2 =>
   K (.tuple #[]) w_2)
  else
  vNilP Tryz.prog t0 fun v15 =>
  vFA (some 0) v15 fun v16 =>
  vLd .one v16 w fun v17 =>
  vPtr .neq v17 t0 w fun v19 =>
  vBool v19 fun c_2 => if c_2 = true then
   (False)
  else
  K (.tuple #[]) w

def tab233 : Tab := { sel := [], plan := [], join := [] }

theorem F233_eq (t0 : Value) (w : World) (K : Value → World → Prop) : enterV Tryz.prog tab233 Tryz.f233 [t0] w K = F233 t0 w K := by kernel_rfl

theorem F233_ok {t0 : Value} {w : World} {K : Value → World → Prop} (h : F233 t0 w K) : Ret Tryz.prog 233 #[t0] w K :=
  enter_sound (T := tab233) (args := [t0]) Tryz.func233 Tryz.call233 mixed (by kernel_rfl) (by rw [F233_eq]; exact h)

end Go.Proofs.YtdkklhnleppfcaaGreat
