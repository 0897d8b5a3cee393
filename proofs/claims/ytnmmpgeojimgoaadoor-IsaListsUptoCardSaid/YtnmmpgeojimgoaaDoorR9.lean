/-
  IsaLists returns true, and changes no argument, for every input of which no more than 1048576 values and letters are told; its card.
-/
import Derived.Test.YtnmmpgeojimgoaaDoorR0
import Derived.JoinedCond
import Derived.Deep.DeepHandedRow
namespace Go.Proofs.YtnmmpgeojimgoaaDoor
open Go.ChangeMaps Go Go.V Go.ChangeShapes Go.WideShapes Go.ChangeAt Go.RowKit
set_option linter.unusedVariables false
set_option maxRecDepth 100000

theorem spec9 (H : Type) (ds : List (DataW H)) (h : ds.length = Tryd.f9.params.toList.length) : Rows.isaListsSpec.fn H ds = { results := [.lit (.bool true)], args := ds } := by
  rw [Tryd.params9] at h
  match ds, h with
  | [d0, d1], _ => rfl

noncomputable def boolT9 : Nat := match Tryd.f9.resultTypes.toList with
  | [t] => t
  | _ => 0
theorem law9B : lawB Tryd.prog Tryd.f9 boolT9 = true := by kernel_rfl

section
variable {H : Type} {enc : TypeId × Value → H}
theorem ok9 (os : Os) : Input.okWideB Tryd.prog ((World.laidAll Tryd.prog os laidL).forCall (fun _ _ => 0) ⟨#[], #[.slice none 0 0, .string ⟨#[]⟩], []⟩) 9 ⟨#[], #[.slice none 0 0, .string ⟨#[]⟩], []⟩ = true := by kernel_rfl
theorem whole9 (os : Os) : DataW.whole enc Tryd.prog ((World.laidAll Tryd.prog os laidL).forCall (fun _ _ => 0) ⟨#[], #[.slice none 0 0, .string ⟨#[]⟩], []⟩).memory Tryd.f9.params.toList [] false [.slice none 0 0, .string ⟨#[]⟩] 8 = some ([.nil, .lit (.string [])], [], []) := by kernel_rfl
theorem sized9 (os : Os) : Rows.isaListsSpec.sizedB enc Tryd.prog Tryd.f9 false ((World.laidAll Tryd.prog os laidL).forCall (fun _ _ => 0) ⟨#[], #[.slice none 0 0, .string ⟨#[]⟩], []⟩).memory #[.slice none 0 0, .string ⟨#[]⟩] 8 = true := by kernel_rfl

theorem witness9 (os : Os) : ∃ (w : World) (tape : Tape) (i : Input), w.os = os ∧ (w.forCall tape i).Shaped Tryd.checked.prog ∧ i.vars = [] ∧ Input.okWide Tryd.checked.prog (w.forCall tape i) .any w.heap.size 9 i ∧
      (Rows.OpenSpec.upto Rows.isaListsSpec).preRow enc Tryd.checked.prog Tryd.f9 [] false laidL (w.forCall tape i).memory i.args ∧ ({} : Assume).holds Tryd.checked.prog (lone (Frame.enter Tryd.checked.prog 9 i.args .normal) [] (w.forCall tape i)) :=
  ⟨World.laidAll Tryd.prog os laidL, fun _ _ => 0, ⟨#[], #[.slice none 0 0, .string ⟨#[]⟩], []⟩, World.laidAll_os _ _ _, shaped0 os _, (Input.okWide_of_okWideB (base := 0) (ok9 os)).1, (Input.okWide_of_okWideB (ok9 os)).2,
    ⟨⟨(OpenSpec.pre_some (k := Rows.uptoSmall) rfl [] false _ _).2 ⟨_, _, _, DataW.Whole_of_whole (whole9 os), rfl, rfl⟩, met os _⟩, sizedMet_of_sizedB (sized9 (enc := enc) os)⟩, by
    simp only [Assume.holds]
    exact ⟨by simp, by simp, fun _ => Modest.zero, by simp, by simp⟩⟩
end

theorem lifted9 (os : Os) (started : os.Started) (H : Type) (enc : TypeId × Value → H) (F : Stop.Interp) :
    ReturnsInHanded {} Tryd.checked os 9 .any ((Rows.OpenSpec.upto Rows.isaListsSpec).preRow enc Tryd.prog Tryd.f9 [] false laidL) (((Rows.OpenSpec.upto Rows.isaListsSpec).at F).post enc Tryd.prog Tryd.f9 false true false false) := by
  refine returnsInHanded_of_row (C := Tryd.checked) own3 started (by kernel_rfl) Tryd.func9 (witness9 os) ?_
  intro W base args ds gs before hval0 hW _ hk _ hL hsh _
  have hval : ∀ (j : Nat) t v, Tryd.f9.params[j]? = some t → args[j]? = some v → Value.okWide Tryd.prog W .any base t v := hval0
  refine true_calls boolT9 law9B rfl (spec9 H) hW fun ps hA => ?_
  have hk := hk _ rfl
  obtain ⟨_, _, _, hV, _⟩ := hW
  obtain ⟨rfl, _⟩ := trodVars_none hV
  rw [Tryd.params9] at hA hval
  obtain ⟨v0, vs0, d0, ds0, p0, q0, hargs, rfl, rfl, h0, r0⟩ := trodAll_cons hA
  obtain ⟨v1, vs1, d1, ds1, p1, q1, rfl, rfl, rfl, h1, r1⟩ := trodAll_cons r0
  obtain ⟨rfl, rfl, rfl⟩ := trodAll_nil r1
  obtain rfl : args = #[v0, v1] := by cases args; simp_all
  obtain ⟨x0, o0⟩ := open_codes (hval 0 40 v0 rfl rfl) h0
  obtain ⟨a1, rfl, rfl, rfl, w1⟩ := open_string Tryd.underlying9 (hval 1 9 v1 rfl rfl) h1
  have hb : Rows.uptoBulkAll ([d0, .lit (.string _)] ++ []) ≤ 1048576 := of_decide_eq_true hk
  simp only [List.append_nil, Rows.uptoBulkAll, Rows.uptoBulk] at hb
  exact law9 (tabs_of hL hsh) (fun w' f => ⟨rfl, f⟩) o0 (by show a1.data.toList.length ≤ 1048576; omega)

theorem rowOver9 : Rows.IsaListsUptoSaid :=
  OpenClaim.holds_of_cond 9 Tryd.f9 rfl rfl rfl rfl rfl rfl rfl ⟨rfl, rfl, rfl, rfl, rfl⟩ rfl rfl rfl rfl rfl (by kernel_rfl) Tryd.func9 (by kernel_rfl)
    (of_decide_eq_true (by kernel_rfl)) (by unfold Func.isWrapper; first | (rw [if_pos (by decide +kernel)]; kernel_rfl) | (rw [if_neg (by decide +kernel)]; exact ⟨rfl, rfl⟩))
    (fun os started H enc _ F => by rw [OpenClaim.pre_eq_preRow]; exact lifted9 os started H enc F)

theorem isaLists_holds : Rows.IsaListsUptoCardSaid :=
  Claim7.holds_tied_plain_at .later [] [.data, .data, .data, .data, .sentinel, .sentinel, .listed, .data, .pinned] true (true, "76cc94392f6776298deb46539f74d83e8f2fbe1118e99c806e9905466502fcee") true
    rowOver9 (fun _ h => by cases h) (by kernel_rfl) (fun _ h => by cases h) isaListsUpto_row_tie rfl ⟨rfl, rfl⟩ (by kernel_rfl) rfl
    (fun f fn hf hfn => by
      obtain rfl : f = 9 := Option.some.inj ((show Tryd.prog.funcNamed "gatehouse/gatehouselaw02.IsaLists" = some 9 by kernel_rfl).symm.trans hf) |>.symm
      obtain rfl : fn = Tryd.f9 := (Option.some.inj (Tryd.func9.symm.trans hfn)).symm
      exact ⟨by kernel_rfl, fun j t ht => by
        have hm : t ∈ Tryd.f9.params.toList := by simpa using Array.mem_of_getElem? ht
        have hall : (Tryd.f9.params.toList.all fun u => !Tryd.prog.wantsStandIn u) = true := by kernel_rfl
        exact (show Tryd.prog.wantsStandIn t = false by simpa using List.all_eq_true.1 hall t hm)⟩)
    (by kernel_rfl)
end Go.Proofs.YtnmmpgeojimgoaaDoor
