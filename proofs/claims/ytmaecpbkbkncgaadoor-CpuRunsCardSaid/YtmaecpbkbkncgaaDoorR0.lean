/-
  Cpu: what the rows lean on: the table out of the row's condition; a state among the arguments. Own work.
-/
import Derived.Test.YtmaecpbkbkncgaaDoorC1
import Derived.Test.YtmaecpbkbkncgaaDoorC8
import Derived.Test.YtmaecpbkbkncgaaDoorC9
import Derived.Test.YtmaecpbkbkncgaaDoorRows
import Derived.Test.YtmaecpbkbkncgaaDoorCards
import Derived.Test.YtmaecpbkbkncgaaDoorTie
import Derived.Test.YtmaecpbkbkncgaaDoorVg
import Derived.ProofKit
import Derived.LaidMore
import Derived.OpenShut
import Derived.Stop.Joined
import Derived.SevenTiedAt
import Derived.Lib.LaidTab
import Derived.Stop.LaidErr
namespace Go.Proofs.YtmaecpbkbkncgaaDoor
open Go.ChangeMaps Go Go.V Go.ChangeShapes Go.WideShapes Go.ChangeAt Go.RowKit
set_option linter.unusedVariables false
set_option maxRecDepth 100000

abbrev laidL : List (String × DataW Unit) := [("unicode.White_Space", Rows.laid_unicode_White_Space), ("strings.asciiSpace", Rows.laid_strings_asciiSpace)]

theorem own3 : ownKnob Tryd.prog.godebug = none := by kernel_rfl

theorem tabD : (Rows.laid_strings_asciiSpace : DataW Unit) = Lib.tabData .u8 Lib.asciiSpaceTab := by kernel_rfl

noncomputable def gTab : Nat := (Tryd.prog.globalNamed "strings.asciiSpace").getD 0
theorem gTabEq : Tryd.prog.globalNamed "strings.asciiSpace" = some gTab := by kernel_rfl
noncomputable def tTab : Nat := ((Tryd.prog.globals[gTab]?).map (·.type)).getD 0
theorem tTabEq : (Tryd.prog.globals[gTab]?).map (·.type) = some tTab := by kernel_rfl
noncomputable def eTab : Nat := match Tryd.prog.underlying tTab with
  | some (.array _ e) => e
  | _ => 0
theorem uTab : Tryd.prog.underlying tTab = some (.array 256 eTab) := by kernel_rfl
theorem uETab : Tryd.prog.underlying eTab = some (.int .u8) := by kernel_rfl
theorem cETab : Tryd.prog.cellsOf eTab = 1 := by kernel_rfl
theorem cTTab : Tryd.prog.cellsOf tTab = 256 := by kernel_rfl

theorem tabs_of {W : World} (h : laidMetH Tryd.prog laidL W) : Tabs W := by
  rw [MakeChecks.laidMetH_plain _ _ _ (by kernel_rfl)] at h
  have h2 : laidMet Tryd.prog [("strings.asciiSpace", Lib.tabData .u8 Lib.asciiSpaceTab)] W := by
    rw [← tabD]
    exact laidMet.tail h
  exact Lib.tabIs_of_head gTabEq tTabEq uTab uETab cETab cTTab h2

theorem door_met (os : Os) (args : Array Value) : laidMetH Tryd.prog laidL ((World.doorLaid Tryd.prog 400 os).forCall (fun _ _ => 0) ⟨#[], args, []⟩).memory :=
  laidMetH_of_parts3 (fuel := 8) (laidMet_of_run' 8 (by kernel_rfl) (by kernel_rfl)) (by kernel_rfl) (by kernel_rfl)

theorem wf_i64 {a : Int} (w : (Lit.int .i64 a).wf = true) : -9223372036854775808 ≤ a ∧ a < 9223372036854775808 := by
  have h : IntKind.i64.min ≤ a ∧ a ≤ 9223372036854775807 := by
    simpa [Lit.wf] using w
  have e : IntKind.i64.min = -9223372036854775808 := by decide
  omega

theorem wf_u64 {a : Int} (w : (Lit.int .u64 a).wf = true) : ∃ x : Nat, a = x ∧ x < 18446744073709551616 := by
  have h : 0 ≤ a ∧ a ≤ 18446744073709551615 := by
    simpa [Lit.wf, IntKind.min, IntKind.max, IntKind.signed, IntKind.bits] using w
  exact ⟨a.toNat, by omega, by omega⟩

section
variable {H : Type} {enc : TypeId × Value → H} {W : World}

theorem nats_of : ∀ (n : Nat) (cs : List Value), cs.length = n → (∀ i, i < n → ∃ x : Nat, x < 18446744073709551616 ∧ cs[i]? = some (ut x)) → ∃ r : List Nat, r.length = n ∧ (∀ x ∈ r, x < 18446744073709551616) ∧ cs = stc r
  | 0, cs, h, _ => ⟨[], rfl, by simp, by simpa using h⟩
  | n + 1, [], h, _ => by simp at h
  | n + 1, c :: cs, h, hc => by
    obtain ⟨x, hx, he⟩ := hc 0 (by omega)
    obtain ⟨r, h1, h2, h3⟩ := nats_of n cs (by simpa using h) (fun i hi => by
      obtain ⟨y, hy, e⟩ := hc (i + 1) (by omega)
      exact ⟨y, hy, by simpa using e⟩)
    refine ⟨x :: r, by simp [h1], ?_, ?_⟩
    · intro y hy
      rcases List.mem_cons.1 hy with rfl | hy
      · exact hx
      · exact h2 y hy
    · simp only [List.getElem?_cons_zero, Option.some.injEq] at he
      rw [he, h3]
      rfl

theorem one_of {cs : List Value} {v : Value} {o : Nat} (h : (cs.drop o).take 1 = [v]) : cs[o]? = some v := by
  have := congrArg (·[0]?) h
  simpa [List.getElem?_take, List.getElem?_drop] using this

theorem open_cells {fuel : Nat} {cs : List Value} {y : DataW H × List MemPlace} (h : DataW.trod enc Tryd.prog W 0 (fun _ => true) true fuel 25 cs = some y) : ∃ r : List Nat, St r ∧ cs = stc r := by
  obtain ⟨xs, n, _, rfl, hl, hlen, hf⟩ := DataW.trod_struct u25 h
  have hsz : fields25.size = 2 := by
    have := congrArg List.length f25
    simpa using this
  rw [hsz] at hlen
  rw [c25] at hl
  have hfield : ∀ (i t o : Nat), ([(tyR, 0), (tyU, 16)] : List (Nat × Nat))[i]? = some (t, o) → DataW.trod enc Tryd.prog W 0 (fun _ => true) true n t ((cs.drop o).take (Tryd.prog.cellsOf t)) = xs[i]? := by
    intro i t o hi
    have h1 : (fields25.toList.map (fun f => (f.type, f.offset)))[i]? = some (t, o) := by rw [f25]; exact hi
    rw [List.getElem?_map] at h1
    obtain ⟨f, hfi, he⟩ := Option.map_eq_some_iff.1 h1
    simp only [Prod.mk.injEq] at he
    have := hf i f (by simpa using hfi)
    rw [he.1, he.2] at this
    exact this
  match xs, hlen with
  | [y0, y1], _ =>
    have h0 := hfield 0 tyR 0 rfl
    have h1 := hfield 1 tyU 16 rfl
    rw [cU] at h1
    rw [cR] at h0
    obtain ⟨zs, m1, rfl, hx1, hlen1, hn3, hel⟩ := DataW.trod_array uR (show DataW.trod enc Tryd.prog W 0 (fun _ => true) true n tyR _ = some y0 from h0)
    obtain ⟨a, c, _, w⟩ := DataW.trod_int uU h1
    obtain ⟨x, rfl, hx⟩ := wf_u64 w
    rw [cU] at hel
    obtain ⟨r, h1, h2, h3⟩ := nats_of 17 cs hl (fun i hi => by
      by_cases h16 : i = 16
      · subst h16
        exact ⟨x, hx, one_of c⟩
      · have hi : i < 16 := by omega
        have h := hel i hi
        have hz : i < zs.length := by omega
        rw [List.getElem?_eq_getElem hz] at h
        obtain ⟨b, hc, _, w⟩ := DataW.trod_int uU h
        obtain ⟨y, rfl, hy⟩ := wf_u64 w
        refine ⟨y, hy, ?_⟩
        have := one_of hc
        rw [Nat.mul_one, List.drop_zero, List.getElem?_take_of_lt hi] at this
        exact this)
    exact ⟨r, ⟨h1, h2⟩, h3⟩

theorem open_state {v : Value} {d : DataW H} {b : Nat} {ps : List MemPlace} (hv : Value.okWide Tryd.prog W .any b 25 v) (h : DataW.Trod enc Tryd.prog W 0 (fun _ => true) true 25 v d ps) : ∃ r : List Nat, St r ∧ v = stv r := by
  obtain ⟨fuel, h⟩ := h
  obtain ⟨cs, rfl, _⟩ := okWide_struct u25 hv
  have h' : DataW.trod enc Tryd.prog W 0 (fun _ => true) true fuel 25 cs.toList = some (d, ps) := h
  obtain ⟨r, hr, e⟩ := open_cells h'
  refine ⟨r, hr, ?_⟩
  rw [stv, ← e]
end

end Go.Proofs.YtmaecpbkbkncgaaDoor
