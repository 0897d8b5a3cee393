/-
  Cpu: a code among the arguments. Own work.
-/
import Derived.Test.YtmaecpbkbkncgaaDoorR0
namespace Go.Proofs.YtmaecpbkbkncgaaDoor
open Go.ChangeMaps Go Go.V Go.ChangeShapes Go.WideShapes Go.ChangeAt Go.RowKit
set_option linter.unusedVariables false
set_option maxRecDepth 100000

noncomputable def fields48 : Array Field := match Tryd.prog.underlying 48 with
  | some (.struct fs) => fs
  | _ => #[]
theorem u48 : Tryd.prog.underlying 48 = some (.struct fields48) := by kernel_rfl
theorem f48 : fields48.toList.map (fun f => (f.type, f.offset)) = [(3, 0), (3, 1), (3, 2), (3, 3), (3, 4)] := by kernel_rfl
theorem c48 : Tryd.prog.cellsOf 48 = 5 := by kernel_rfl
theorem c3' : Tryd.prog.cellsOf 3 = 1 := by kernel_rfl

theorem open_code {H : Type} {enc : TypeId × Value → H} {W : World} {v : Value} {d : DataW H} {b : Nat} {ps : List MemPlace} (hv : Value.okWide Tryd.prog W .any b 48 v) (h : DataW.Trod enc Tryd.prog W 0 (fun _ => true) true 48 v d ps) : ∃ x : Cd, v = x.v := by
  obtain ⟨fuel, h⟩ := h
  obtain ⟨cs, rfl, _⟩ := okWide_struct u48 hv
  have h' : DataW.trod enc Tryd.prog W 0 (fun _ => true) true fuel 48 cs.toList = some (d, ps) := h
  obtain ⟨xs, n, _, _, hl, hlen, hf⟩ := DataW.trod_struct u48 h'
  have hsz : fields48.size = 5 := by
    have := congrArg List.length f48
    simpa using this
  rw [c48] at hl
  have hone : ∀ i : Nat, i < 5 → ∃ a : Int, cs.toList[i]? = some (it a) := by
    intro i hi
    have h1 : (fields48.toList.map (fun f => (f.type, f.offset)))[i]? = some (3, i) := by
      rw [f48]
      match i, hi with
      | 0, _ => rfl
      | 1, _ => rfl
      | 2, _ => rfl
      | 3, _ => rfl
      | 4, _ => rfl
    rw [List.getElem?_map] at h1
    obtain ⟨f, hfi, he⟩ := Option.map_eq_some_iff.1 h1
    simp only [Prod.mk.injEq] at he
    have := hf i f (by simpa using hfi)
    rw [he.1, he.2, c3', List.getElem?_eq_getElem (by omega)] at this
    obtain ⟨a, hc, _, _⟩ := DataW.trod_int Tryd.underlying3 this
    exact ⟨a, one_of hc⟩
  obtain ⟨a0, e0⟩ := hone 0 (by decide)
  obtain ⟨a1, e1⟩ := hone 1 (by decide)
  obtain ⟨a2, e2⟩ := hone 2 (by decide)
  obtain ⟨a3, e3⟩ := hone 3 (by decide)
  obtain ⟨a4, e4⟩ := hone 4 (by decide)
  refine ⟨⟨a0, a1, a2, a3, a4⟩, ?_⟩
  obtain ⟨l⟩ := cs
  simp only at hl e0 e1 e2 e3 e4
  match l, hl with
  | [p, q, r, s, t], _ =>
    simp only [List.getElem?_cons_zero, List.getElem?_cons_succ, Option.some.injEq] at e0 e1 e2 e3 e4
    rw [e0, e1, e2, e3, e4]

end Go.Proofs.YtmaecpbkbkncgaaDoor
