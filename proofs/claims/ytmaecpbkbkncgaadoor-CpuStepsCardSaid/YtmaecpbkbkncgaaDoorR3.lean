/-
  CpuSteps returns true for every input, and changes no argument; its card. (No condition beyond the tied tables.)
-/
import Derived.Test.YtmaecpbkbkncgaaDoorR0
namespace Go.Proofs.YtmaecpbkbkncgaaDoor
open Go.ChangeMaps Go Go.V Go.ChangeShapes Go.WideShapes Go.ChangeAt Go.RowKit
set_option linter.unusedVariables false
set_option maxRecDepth 100000

theorem spec3 (H : Type) (ds : List (DataW H)) (h : ds.length = Tryd.f3.params.toList.length) : Rows.cpuStepsSpec.fn H ds = { results := [.lit (.bool true)], args := ds } := by
  rw [Tryd.params3] at h
  match ds, h with
  | [d1, d2], _ => rfl

noncomputable def boolT : Nat := match Tryd.f3.resultTypes.toList with
  | [t] => t
  | _ => 0
theorem law3B : lawB Tryd.prog Tryd.f3 boolT = true := by kernel_rfl

theorem lifted3 (os : Os) (started : os.Started) (H : Type) (enc : TypeId × Value → H) :
    ReturnsInHanded {} Tryd.checked os 3 .any (fun w args => (Rows.cpuStepsSpec.pre enc Tryd.prog Tryd.f3 [] false w args ∧ laidMetH Tryd.prog laidL w) ∧ sizedMet enc Tryd.prog Tryd.f3 (OpenSpec.ofChange Rows.cpuStepsSpec) false w args)
      (Rows.cpuStepsSpec.post enc Tryd.prog Tryd.f3 false true false false) := by
  refine returnsInHanded_of_change_and (C := Tryd.checked) (X := fun w _ => laidMetH Tryd.prog laidL w) (fun _ _ _ hh h => h.of_heap hh) own3 started (by kernel_rfl) Tryd.func3
    (ChangeSpec.witness_shaped (enc := enc) (C := Tryd.checked) (os := os) (X := fun w _ => laidMetH Tryd.prog laidL w) false (World.doorLaid Tryd.prog 400 os) #[.string ⟨#[]⟩, stv (List.replicate 17 0)] 8 rfl (World.shaped_of_RefB (by kernel_rfl) (by kernel_rfl)) (by kernel_rfl) (by kernel_rfl) (by kernel_rfl) (door_met os _)) ?_
  intro W base args ds gs before hval0 hW _ _ hL _
  have hval : ∀ (j : Nat) t v, Tryd.f3.params[j]? = some t → args[j]? = some v → Value.okWide Tryd.prog W .any base t v := hval0
  refine true_calls boolT law3B rfl (spec3 H) hW fun ps hA => ?_
  rw [Tryd.params3] at hA hval
  obtain ⟨v0, vs0, d0, ds0, p0, q0, hargs, rfl, rfl, h0, r0⟩ := trodAll_cons hA
  obtain ⟨v1, vs1, d1, ds1, p1, q1, rfl, rfl, rfl, h1, r1⟩ := trodAll_cons r0
  obtain ⟨rfl, rfl, rfl⟩ := trodAll_nil r1
  obtain rfl : args = #[v0, v1] := by cases args; simp_all
  obtain ⟨a0, rfl, rfl, rfl, w0⟩ := open_string Tryd.underlying9 (hval 0 9 v0 rfl rfl) h0
  obtain ⟨r, hr, rfl⟩ := open_state (hval 1 25 v1 rfl rfl) h1
  exact law3 (s := a0.data.toList) (tabs_of hL) hr fun w' f => ⟨rfl, f⟩

theorem over3 : Rows.CpuStepsSaid :=
  OpenClaim.holds_of_wide 3 Tryd.f3 rfl rfl rfl rfl rfl rfl rfl ⟨rfl, rfl, rfl, rfl, rfl⟩ rfl rfl rfl rfl rfl (by kernel_rfl) Tryd.func3 (by kernel_rfl)
    (of_decide_eq_true (by kernel_rfl)) (by unfold Func.isWrapper; first | (rw [if_pos (by decide +kernel)]; kernel_rfl) | (rw [if_neg (by decide +kernel)]; exact ⟨rfl, rfl⟩))
    (fun os started H enc _ => lifted3 os started H enc)

theorem cpuSteps_holds : Rows.CpuStepsCardSaid :=
  Claim7.holds_tied_plain_at .later [] [.listed, .data] true (true, "87d77506019ddab663fb7e0f2e052f1881164e07803105f65975d27eb9532bb2") false
    over3 (fun _ h => by cases h) (by kernel_rfl) (fun _ h => by cases h) cpuSteps_row_tie rfl ⟨rfl, rfl⟩ (by kernel_rfl) rfl
    (fun f fn hf hfn => by
      obtain rfl : f = 3 := Option.some.inj ((show Tryd.prog.funcNamed "gatehouse/gatehouselaw06.CpuSteps" = some 3 by kernel_rfl).symm.trans hf) |>.symm
      obtain rfl : fn = Tryd.f3 := (Option.some.inj (Tryd.func3.symm.trans hfn)).symm
      exact ⟨by kernel_rfl, fun j t ht => by
        have hm : t ∈ Tryd.f3.params.toList := by simpa using Array.mem_of_getElem? ht
        have hall : (Tryd.f3.params.toList.all fun u => !Tryd.prog.wantsStandIn u) = true := by kernel_rfl
        exact (show Tryd.prog.wantsStandIn t = false by simpa using List.all_eq_true.1 hall t hm)⟩)
    (by kernel_rfl)
end Go.Proofs.YtmaecpbkbkncgaaDoor
