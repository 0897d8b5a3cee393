/-
  Isa: what the rows lean on: the tables out of the row's condition, the world's shape; instructions among the arguments. Own work.
-/
import Derived.Test.YtnmmpgeojimgoaaDoorI21
import Derived.Test.YtnmmpgeojimgoaaDoorRows
import Derived.Test.YtnmmpgeojimgoaaDoorCards
import Derived.Test.YtnmmpgeojimgoaaDoorTie
import Derived.Test.YtnmmpgeojimgoaaDoorVg
import Derived.ProofKit
import Derived.LaidMore
import Derived.OpenShut
import Derived.Stop.Joined
import Derived.SevenTiedAt
import Derived.Lib.LaidTab
import Derived.Stop.LaidErr
import Derived.Shelf.Vars
import Derived.Lay
import Derived.Handed
import Derived.Deep.DeepHandedRow
namespace Go.Proofs.YtnmmpgeojimgoaaDoor
open Go.ChangeMaps Go Go.V Go.ChangeShapes Go.WideShapes Go.ChangeAt Go.RowKit
set_option linter.unusedVariables false
set_option maxRecDepth 100000

abbrev laidL : List (String × DataW Unit) := [("math/bits.deBruijn32tab", Rows.laid_math_bits_deBruijn32tab), ("math/bits.deBruijn64tab", Rows.laid_math_bits_deBruijn64tab), ("internal/strconv.uint64pow10", Rows.laid_internal_strconv_uint64pow10), ("unicode/utf8.acceptRanges", Rows.laid_unicode_utf8_acceptRanges), ("strconv.ErrRange", Rows.laid_strconv_ErrRange), ("strconv.ErrSyntax", Rows.laid_strconv_ErrSyntax), ("unicode.White_Space", Rows.laid_unicode_White_Space), ("strings.asciiSpace", Rows.laid_strings_asciiSpace), ("unicode/utf8.first", Rows.laid_unicode_utf8_first)]

theorem own3 : ownKnob Tryd.prog.godebug = none := by kernel_rfl

section
noncomputable def gOf (n : String) : Nat := (Tryd.prog.globalNamed n).getD 0
noncomputable def tOf (n : String) : Nat := ((Tryd.prog.globals[gOf n]?).map (·.type)).getD 0
noncomputable def eOf (n : String) : Nat := match Tryd.prog.underlying (tOf n) with
  | some (.array _ e) => e
  | _ => 0

theorem tabD1 : (Rows.laid_strings_asciiSpace : DataW Unit) = Lib.tabData .u8 Lib.asciiSpaceTab := by kernel_rfl
theorem tabD2 : (Rows.laid_internal_strconv_uint64pow10 : DataW Unit) = Lib.tabData .u64 Lib.pow10Tab := by kernel_rfl

noncomputable def fieldsES : Array Field := match Tryd.prog.underlying 141 with
  | some (.struct fs) => fs
  | _ => #[]
noncomputable def msE : Array (String × TypeId) := match Tryd.prog.underlying 60 with
  | some (.interface m) => m
  | _ => #[]
noncomputable def fES : Field := fieldsES.getD 0 default
theorem starE : "*" ++ "errors.errorString" = "*errors.errorString" := by decide
theorem rowE (u : TypeId) (h : Tryd.prog.typeName? 3 u = some "*errors.errorString") : u = 139 :=
  typeName_ptr_named (nm := "errors.errorString") (by rw [starE]; kernel_rfl) (by kernel_rfl) (by decide) u (by rw [starE]; exact h)

theorem tabs_of {W : World} (h : laidMetH Tryd.prog laidL W) (hsh : W.ShapedOpen Tryd.prog) : Tabs W := by
  rw [MakeChecks.laidMetH_plain _ _ _ (by kernel_rfl)] at h
  have h2 := laidMet.tail (laidMet.tail h)
  have h4 := laidMet.tail (laidMet.tail h2)
  have h5 := laidMet.tail h4
  have h7 := laidMet.tail (laidMet.tail h5)
  rw [tabD2] at h2
  rw [tabD1] at h7
  refine ⟨?_, ?_, ?_, ?_, ?_⟩
  · exact Lib.tabIs_of_head (g := gOf "strings.asciiSpace") (t := tOf "strings.asciiSpace") (e := eOf "strings.asciiSpace") (n := 256) (by kernel_rfl) (by kernel_rfl) (by kernel_rfl) (by kernel_rfl) (by kernel_rfl) (by kernel_rfl) h7
  · exact Lib.tabIs_of_head (g := gOf "internal/strconv.uint64pow10") (t := tOf "internal/strconv.uint64pow10") (e := eOf "internal/strconv.uint64pow10") (n := 20) (by kernel_rfl) (by kernel_rfl) (by kernel_rfl) (by kernel_rfl) (by kernel_rfl) (by kernel_rfl) h2
  · obtain ⟨a0, s0, hv, _, _, _⟩ := laid_sentinel (g := 2) (ti := 60) (tp := 139) (te := 141) (ts := 9) (ms := msE) (f := fES) h5 (by kernel_rfl) (by kernel_rfl) (by kernel_rfl) rowE (by kernel_rfl) (by kernel_rfl) (by kernel_rfl) (by kernel_rfl) (by kernel_rfl) (by kernel_rfl) (by kernel_rfl)
    exact ⟨139, .pointer (some a0), by simpa using World.var?_cell (g := 2) (by kernel_rfl) hv 0⟩
  · obtain ⟨a0, s0, hv, _, _, _⟩ := laid_sentinel (g := 3) (ti := 60) (tp := 139) (te := 141) (ts := 9) (ms := msE) (f := fES) h4 (by kernel_rfl) (by kernel_rfl) (by kernel_rfl) rowE (by kernel_rfl) (by kernel_rfl) (by kernel_rfl) (by kernel_rfl) (by kernel_rfl) (by kernel_rfl) (by kernel_rfl)
    exact ⟨139, .pointer (some a0), by simpa using World.var?_cell (g := 3) (by kernel_rfl) hv 0⟩
  · exact Go.Proofs.cell_of_shapedOpen_int (g := 5) (t := 3) (zero := #[it 0]) hsh (by decide +kernel) (by kernel_rfl) rfl (by kernel_rfl) (by kernel_rfl) (by kernel_rfl)
end

theorem met (os : Os) (args : Array Value) : laidMetH Tryd.prog laidL ((World.laidAll Tryd.prog os laidL).forCall (fun _ _ => 0) ⟨#[], args, []⟩).memory := by
  rw [MakeChecks.laidMetH_plain _ _ _ (by kernel_rfl)]
  exact laidMet_laidAll _ (by kernel_rfl) (by kernel_rfl)

theorem shaped0 (os : Os) (args : Array Value) : ((World.laidAll Tryd.prog os laidL).forCall (fun _ _ => 0) ⟨#[], args, []⟩).Shaped Tryd.prog :=
  World.shaped_of_ZipB (by kernel_rfl) (by kernel_rfl)

theorem wf_i64 {a : Int} (w : (Lit.int .i64 a).wf = true) : -9223372036854775808 ≤ a ∧ a < 9223372036854775808 := by
  have h : IntKind.i64.min ≤ a ∧ a ≤ 9223372036854775807 := by
    simpa [Lit.wf] using w
  have e : IntKind.i64.min = -9223372036854775808 := by decide
  omega

section
variable {H : Type} {enc : TypeId × Value → H}

/-- the wrap of a row that lists variables, which hands on the world's shape too -/
theorem wrap_shape {a : Assume} {C : Checked} {os : Os} {f : FuncId} {fn : Func} {s : ChangeSpec} {conds : List PathCond} {apart fresh handsOn again : Bool} {X : World → Array Value → Prop}
    (hX : ∀ (w w' : World) (args : Array Value), w.heap = w'.heap → X w args → X w' args)
    (own : ownKnob C.prog.godebug = none) (started : os.Started) (noInit : C.prog.inits.idxOf? f = none) (hfn : C.prog.funcs[f]? = some fn)
    (witness : ∃ (w : World) (tape : Tape) (i : Input), w.os = os ∧ (w.forCall tape i).Shaped C.prog ∧ i.vars = [] ∧ Input.okWide C.prog (w.forCall tape i) .any w.heap.size f i ∧
      ((s.pre enc C.prog fn conds apart (w.forCall tape i).memory i.args ∧ X (w.forCall tape i).memory i.args) ∧ sizedMet enc C.prog fn (OpenSpec.ofChange s) apart (w.forCall tape i).memory i.args) ∧ a.holds C.prog (lone (Frame.enter C.prog f i.args .normal) [] (w.forCall tape i)))
    (contract : ∀ (W : World) (base : Nat) (args : Array Value) (ds gs : List (DataW H)) (before : List MemPlace),
      (∀ (j : Nat) t v, fn.params[j]? = some t → args[j]? = some v → Value.okWide C.prog W .any base t v) →
      DataW.Whole enc C.prog fn.params.toList s.vars apart W args.toList ds gs before →
      X W args → W.ShapedOpen C.prog →
      _root_.Go.Calls C.prog f args W fun e W' => ∃ v, e = .returned v ∧ s.post enc C.prog fn apart fresh handsOn again W args v W') :
    ReturnsInHanded a C os f .any (fun w args => (s.pre enc C.prog fn conds apart w args ∧ X w args) ∧ sizedMet enc C.prog fn (OpenSpec.ofChange s) apart w args) (s.post enc C.prog fn apart fresh handsOn again) := by
  refine returnsInHanded_of_calls own started noInit witness ?_
  intro w tape i _ hsh _ hok hpre hholds
  obtain ⟨_, _, _, fn', hfn', _, _, _, _, hval⟩ := hok
  have e : fn' = fn := Option.some.inj (hfn'.symm.trans hfn)
  subst e
  obtain ⟨⟨⟨ds, gs, before, hw, hc⟩, hx⟩, hz⟩ := hpre
  have hw' := DataW.Whole.of_heap (w' := w.forCall tape i) (by rfl) hw
  refine (contract (w.forCall tape i) w.heap.size i.args ds gs before hval hw' (hX _ _ _ (by rfl) hx) hsh).mono fun e W' ⟨v, he, hp⟩ => ?_
  subst he
  exact ChangeSpec.post_blind hp

theorem one_of {cs : List Value} {v : Value} {o : Nat} (h : (cs.drop o).take 1 = [v]) : cs[o]? = some v := by
  have := congrArg (·[0]?) h
  simpa [List.getElem?_take, List.getElem?_drop] using this

noncomputable def fieldsCd : Array Field := match Tryd.prog.underlying 23 with
  | some (.struct fs) => fs
  | _ => #[]
theorem uCd : Tryd.prog.underlying 23 = some (.struct fieldsCd) := by kernel_rfl
theorem fCd : fieldsCd.toList.map (fun f => (f.type, f.offset)) = [(3, 0), (3, 1), (3, 2), (3, 3), (3, 4)] := by kernel_rfl
theorem cCd : Tryd.prog.cellsOf 23 = 5 := by kernel_rfl
theorem cInt : Tryd.prog.cellsOf 3 = 1 := by kernel_rfl

theorem open_code' {W : World} {fuel : Nat} {l : List Value} {y : DataW H × List MemPlace} (h : DataW.trod enc Tryd.prog W 0 (fun _ => true) true fuel 23 l = some y) : ∃ x : Cd, l = x.cs ∧ Bd x := by
  obtain ⟨xs, n, _, _, hl, hlen, hf⟩ := DataW.trod_struct uCd h
  have hsz : fieldsCd.size = 5 := by
    have := congrArg List.length fCd
    simpa using this
  rw [cCd] at hl
  have hone : ∀ i : Nat, i < 5 → ∃ a : Int, l[i]? = some (it a) ∧ -9223372036854775808 ≤ a ∧ a < 9223372036854775808 := by
    intro i hi
    have h1 : (fieldsCd.toList.map (fun f => (f.type, f.offset)))[i]? = some (3, i) := by
      rw [fCd]
      match i, hi with
      | 0, _ => rfl
      | 1, _ => rfl
      | 2, _ => rfl
      | 3, _ => rfl
      | 4, _ => rfl
    rw [List.getElem?_map] at h1
    obtain ⟨f, hfi, he⟩ := Option.map_eq_some_iff.1 h1
    simp only [Prod.mk.injEq] at he
    have := hf i f (by simpa using hfi)
    rw [he.1, he.2, cInt, List.getElem?_eq_getElem (by omega)] at this
    obtain ⟨a, hc, _, hw⟩ := DataW.trod_int Tryd.underlying3 this
    exact ⟨a, one_of hc, wf_i64 hw⟩
  obtain ⟨a0, e0, b0⟩ := hone 0 (by decide)
  obtain ⟨a1, e1, b1⟩ := hone 1 (by decide)
  obtain ⟨a2, e2, b2⟩ := hone 2 (by decide)
  obtain ⟨a3, e3, b3⟩ := hone 3 (by decide)
  obtain ⟨a4, e4, b4⟩ := hone 4 (by decide)
  refine ⟨⟨a0, a1, a2, a3, a4⟩, ?_, ⟨b0, b1, b2, b3, b4⟩⟩
  match l, hl with
  | [p, q, r, s, t], _ =>
    simp only [List.getElem?_cons_zero, List.getElem?_cons_succ, Option.some.injEq] at e0 e1 e2 e3 e4
    rw [e0, e1, e2, e3, e4]

theorem open_code {W : World} {v : Value} {d : DataW H} {b : Nat} {ps : List MemPlace} (hv : Value.okWide Tryd.prog W .any b 23 v) (h : DataW.Trod enc Tryd.prog W 0 (fun _ => true) true 23 v d ps) : ∃ x : Cd, v = x.v ∧ Bd x := by
  obtain ⟨fuel, h⟩ := h
  obtain ⟨cs, rfl, _⟩ := okWide_struct uCd hv
  have h' : DataW.trod enc Tryd.prog W 0 (fun _ => true) true fuel 23 cs.toList = some (d, ps) := h
  obtain ⟨x, hx, hb⟩ := open_code' h'
  refine ⟨x, ?_, hb⟩
  obtain ⟨l⟩ := cs
  simp only at hx
  rw [hx]

theorem open_codes {W : World} {v : Value} {d : DataW H} {b : Nat} {ps : List MemPlace} (hv : Value.okWide Tryd.prog W .any b 40 v) (h : DataW.Trod enc Tryd.prog W 0 (fun _ => true) true 40 v d ps) : ∃ xs : List Cd, Codes W v xs := by
  obtain ⟨fuel, h⟩ := h
  obtain ⟨a1, ln, cp, rfl⟩ := okWide_slice Tryd.underlying40 hv
  have h' : DataW.trod enc Tryd.prog W 0 (fun _ => true) true fuel 40 [.slice a1 ln cp] = some (d, ps) := h
  rcases DataW.trod_slice Tryd.underlying40 h' with ⟨hv, _⟩ | ⟨a, len, cap, elems, rest, n, _, hv, hd, _, hle, hm, hlen, hel, _, _⟩
  · simp only [List.cons.injEq, and_true] at hv
    rw [hv]
    exact ⟨[], ⟨_, _, rfl⟩, by simp, by simp, fun W f i o hi => by simp at hi⟩
  · simp only [List.cons.injEq, and_true] at hv
    rw [hv]
    have each : ∀ i, i < len → ∃ x : Cd, Bd x ∧ ∀ j v, x.cs[j]? = some v → W.cell? ((a.add (i * 5)).add j) = some v := by
      intro i hi
      have h1 := hel i hi
      rw [cCd, List.getElem?_eq_getElem (by omega)] at h1
      obtain ⟨cs, hcs, ht⟩ := Option.bind_eq_some_iff.1 h1
      obtain ⟨x, rfl, hb⟩ := open_code' ht
      refine ⟨x, hb, fun j v hj => ?_⟩
      have hc := (World.cells?_some hcs).2.2 j (by have := (List.getElem?_eq_some_iff.1 hj).1; simpa [Cd.cs] using this)
      rw [hc, hj]
    obtain ⟨xs, hxs, get⟩ := exists_list len each
    have hmx : maxLen = 9223372036854775807 := by decide
    refine ⟨xs, ⟨_, _, by rw [hxs]⟩, by rw [hxs]; omega, fun x hx => ?_, fun W' f i x hi kd K k => ?_⟩
    · obtain ⟨i, hi⟩ := List.mem_iff_getElem?.1 hx
      exact (get i x hi).1
    · have hlt := (List.getElem?_eq_some_iff.1 hi).1
      rw [hxs] at hlt
      refine ⟨by omega, by omega, ?_⟩
      rw [Int.toNat_natCast]
      exact ⟨x.cs, rfl, fun j v hj => cell_fr ((get i x hi).2 j v hj) f, k⟩
end
end Go.Proofs.YtnmmpgeojimgoaaDoor
