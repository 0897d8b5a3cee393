/-
  IsaBack returns true for every input, and changes no argument; its card. (No condition beyond the tied tables.)
-/
import Derived.Test.YtnmmpgeojimgoaaDoorR0
namespace Go.Proofs.YtnmmpgeojimgoaaDoor
open Go.ChangeMaps Go Go.V Go.ChangeShapes Go.WideShapes Go.ChangeAt Go.RowKit
set_option linter.unusedVariables false
set_option maxRecDepth 100000

theorem spec7 (H : Type) (ds : List (DataW H)) (h : ds.length = Tryd.f7.params.toList.length) : Rows.isaBackSpec.fn H ds = { results := [.lit (.bool true)], args := ds } := by
  rw [Tryd.params7] at h
  match ds, h with
  | [d0, d1], _ => rfl

noncomputable def boolT7 : Nat := match Tryd.f7.resultTypes.toList with
  | [t] => t
  | _ => 0
theorem law7B : lawB Tryd.prog Tryd.f7 boolT7 = true := by kernel_rfl

theorem lifted7 (os : Os) (started : os.Started) (H : Type) (enc : TypeId × Value → H) :
    ReturnsInHanded {} Tryd.checked os 7 .any (fun w args => (Rows.isaBackSpec.pre enc Tryd.prog Tryd.f7 [] false w args ∧ laidMetH Tryd.prog laidL w) ∧ sizedMet enc Tryd.prog Tryd.f7 (OpenSpec.ofChange Rows.isaBackSpec) false w args)
      (Rows.isaBackSpec.post enc Tryd.prog Tryd.f7 false true false false) := by
  refine wrap_shape (C := Tryd.checked) (X := fun w _ => laidMetH Tryd.prog laidL w) (fun _ _ _ hh h => h.of_heap hh) own3 started (by kernel_rfl) Tryd.func7
    (ChangeSpec.witness_shaped (enc := enc) (C := Tryd.checked) (os := os) (X := fun w _ => laidMetH Tryd.prog laidL w) false (World.laidAll Tryd.prog os laidL) #[.agg #[.int .i64 0, .int .i64 0, .int .i64 0, .int .i64 0, .int .i64 0], .agg #[.int .i64 0, .int .i64 0, .int .i64 0, .int .i64 0, .int .i64 0]] 8 (World.laidAll_os _ _ _) (shaped0 os _) (by kernel_rfl) (by kernel_rfl) (by kernel_rfl) (met os _)) ?_
  intro W base args ds gs before hval0 hW hL hsh
  have hval : ∀ (j : Nat) t v, Tryd.f7.params[j]? = some t → args[j]? = some v → Value.okWide Tryd.prog W .any base t v := hval0
  refine true_calls boolT7 law7B rfl (spec7 H) hW fun ps hA => ?_
  rw [Tryd.params7] at hA hval
  obtain ⟨v0, vs0, d0, ds0, p0, q0, hargs, rfl, rfl, h0, r0⟩ := trodAll_cons hA
  obtain ⟨v1, vs1, d1, ds1, p1, q1, rfl, rfl, rfl, h1, r1⟩ := trodAll_cons r0
  obtain ⟨rfl, rfl, rfl⟩ := trodAll_nil r1
  obtain rfl : args = #[v0, v1] := by cases args; simp_all
  obtain ⟨x0, rfl, b0⟩ := open_code (hval 0 23 v0 rfl rfl) h0
  obtain ⟨x1, rfl, b1⟩ := open_code (hval 1 23 v1 rfl rfl) h1
  exact law7 (tabs_of hL hsh) (fun w' f => ⟨rfl, f⟩) b0.n.1 b0.n.2 b1.n.1 b1.n.2

theorem rowOver7 : Rows.IsaBackSaid :=
  OpenClaim.holds_of_wide 7 Tryd.f7 rfl rfl rfl rfl rfl rfl rfl ⟨rfl, rfl, rfl, rfl, rfl⟩ rfl rfl rfl rfl rfl (by kernel_rfl) Tryd.func7 (by kernel_rfl)
    (of_decide_eq_true (by kernel_rfl)) (by unfold Func.isWrapper; first | (rw [if_pos (by decide +kernel)]; kernel_rfl) | (rw [if_neg (by decide +kernel)]; exact ⟨rfl, rfl⟩))
    (fun os started H enc _ => lifted7 os started H enc)

theorem isaBack_holds : Rows.IsaBackCardSaid :=
  Claim7.holds_tied_plain_at .later [] [.data, .data, .data, .data, .sentinel, .sentinel, .listed, .data, .pinned] true (true, "76cc94392f6776298deb46539f74d83e8f2fbe1118e99c806e9905466502fcee") true
    rowOver7 (fun _ h => by cases h) (by kernel_rfl) (fun _ h => by cases h) isaBack_row_tie rfl ⟨rfl, rfl⟩ (by kernel_rfl) rfl
    (fun f fn hf hfn => by
      obtain rfl : f = 7 := Option.some.inj ((show Tryd.prog.funcNamed "gatehouse/gatehouselaw02.IsaBack" = some 7 by kernel_rfl).symm.trans hf) |>.symm
      obtain rfl : fn = Tryd.f7 := (Option.some.inj (Tryd.func7.symm.trans hfn)).symm
      exact ⟨by kernel_rfl, fun j t ht => by
        have hm : t ∈ Tryd.f7.params.toList := by simpa using Array.mem_of_getElem? ht
        have hall : (Tryd.f7.params.toList.all fun u => !Tryd.prog.wantsStandIn u) = true := by kernel_rfl
        exact (show Tryd.prog.wantsStandIn t = false by simpa using List.all_eq_true.1 hall t hm)⟩)
    (by kernel_rfl)
end Go.Proofs.YtnmmpgeojimgoaaDoor
