/-
  FilesNone returns true for every input, and changes no argument; its card. (No condition beyond the tied tables.) Own work.
-/
import Derived.Test.YtelkbliggjfdaaaGreatDoorD
import Derived.Test.YtelkbliggjfdaaaGreatDoorRows
import Derived.Test.YtelkbliggjfdaaaGreatDoorCards
import Derived.Test.YtelkbliggjfdaaaGreatDoorTie
import Derived.ProofKit
import Derived.LaidMore
import Derived.OpenShut
import Derived.Stop.Joined
import Derived.SevenTiedAt
import Derived.Lib.LaidTab
import Derived.Stop.LaidErr
import Derived.Shelf.Vars
import Derived.Lay
import Derived.Handed
import Derived.Deep.DeepHandedRow
set_option linter.unusedVariables false
set_option linter.unusedSimpArgs false

namespace Go.Proofs.YtelkbliggjfdaaaGreatDoor
open Go.ChangeMaps Go Go.V Go.X Go.ChangeShapes Go.WideShapes Go.ChangeAt Go.RowKit
set_option linter.unusedVariables false
set_option maxRecDepth 100000

abbrev laidL : List (String × DataW Unit) := [("unicode/utf8.acceptRanges", Rows.laid_unicode_utf8_acceptRanges), ("unicode/utf8.first", Rows.laid_unicode_utf8_first)]

theorem own3 : ownKnob Tryz.prog.godebug = none := by kernel_rfl

theorem met (os : Os) (args : Array Value) : laidMetH Tryz.prog laidL ((World.laidAll Tryz.prog os laidL).forCall (fun _ _ => 0) ⟨#[], args, []⟩).memory := by
  rw [MakeChecks.laidMetH_plain _ _ _ (by kernel_rfl)]
  exact laidMet_laidAll _ (by kernel_rfl) (by kernel_rfl)

theorem shaped0 (os : Os) (args : Array Value) : ((World.laidAll Tryz.prog os laidL).forCall (fun _ _ => 0) ⟨#[], args, []⟩).Shaped Tryz.prog :=
  World.shaped_of_ZipB (by kernel_rfl) (by kernel_rfl)

section
variable {H : Type} {enc : TypeId × Value → H}

/-- the wrap of a row that lists variables, which hands on the world's shape too -/
theorem wrap_shape {a : Assume} {C : Checked} {os : Os} {f : FuncId} {fn : Func} {s : ChangeSpec} {conds : List PathCond} {apart fresh handsOn again : Bool} {X : World → Array Value → Prop}
    (hX : ∀ (w w' : World) (args : Array Value), w.heap = w'.heap → X w args → X w' args)
    (own : ownKnob C.prog.godebug = none) (started : os.Started) (noInit : C.prog.inits.idxOf? f = none) (hfn : C.prog.funcs[f]? = some fn)
    (witness : ∃ (w : World) (tape : Tape) (i : Input), w.os = os ∧ (w.forCall tape i).Shaped C.prog ∧ i.vars = [] ∧ Input.okWide C.prog (w.forCall tape i) .any w.heap.size f i ∧
      ((s.pre enc C.prog fn conds apart (w.forCall tape i).memory i.args ∧ X (w.forCall tape i).memory i.args) ∧ sizedMet enc C.prog fn (OpenSpec.ofChange s) apart (w.forCall tape i).memory i.args) ∧ a.holds C.prog (lone (Frame.enter C.prog f i.args .normal) [] (w.forCall tape i)))
    (contract : ∀ (W : World) (base : Nat) (args : Array Value) (ds gs : List (DataW H)) (before : List MemPlace),
      (∀ (j : Nat) t v, fn.params[j]? = some t → args[j]? = some v → Value.okWide C.prog W .any base t v) →
      DataW.Whole enc C.prog fn.params.toList s.vars apart W args.toList ds gs before →
      X W args → W.ShapedOpen C.prog →
      _root_.Go.Calls C.prog f args W fun e W' => ∃ v, e = .returned v ∧ s.post enc C.prog fn apart fresh handsOn again W args v W') :
    ReturnsInHanded a C os f .any (fun w args => (s.pre enc C.prog fn conds apart w args ∧ X w args) ∧ sizedMet enc C.prog fn (OpenSpec.ofChange s) apart w args) (s.post enc C.prog fn apart fresh handsOn again) := by
  refine returnsInHanded_of_calls own started noInit witness ?_
  intro w tape i _ hsh _ hok hpre hholds
  obtain ⟨_, _, _, fn', hfn', _, _, _, _, hval⟩ := hok
  have e : fn' = fn := Option.some.inj (hfn'.symm.trans hfn)
  subst e
  obtain ⟨⟨⟨ds, gs, before, hw, hc⟩, hx⟩, hz⟩ := hpre
  have hw' := DataW.Whole.of_heap (w' := w.forCall tape i) (by rfl) hw
  refine (contract (w.forCall tape i) w.heap.size i.args ds gs before hval hw' (hX _ _ _ (by rfl) hx) hsh).mono fun e W' ⟨v, he, hp⟩ => ?_
  subst he
  exact ChangeSpec.post_blind hp
end

noncomputable def row2 : Array Value × TypeId := (((begin Tryz.prog (fun _ _ => 0) default).world.heap[2]?).bind Obj.row?).getD (#[], 0)
theorem row2_eq : ((begin Tryz.prog (fun _ _ => 0) default).world.heap[2]?).bind Obj.row? = some (row2.1, row2.2) := by kernel_rfl

theorem three {W : World} (h : W.ShapedOpen Tryz.prog) : 3 ≤ W.heap.size := by
  obtain ⟨cs, hh, _⟩ := h.1 2 row2.1 row2.2 (by decide +kernel) row2_eq
  exact (Array.getElem?_eq_some_iff.1 hh).1

theorem has_lt {W : World} {r : Reach} {b : Nat} {a : Addr} {e n : Nat} (h : W.has Tryz.prog r b a e n) : a.spot = none ∧ a.block < W.heap.size := by
  obtain ⟨_, hs, row, cells, hsh, _⟩ := h
  refine ⟨hs, ?_⟩
  cases e : W.heap[a.block]? with
  | none => simp [World.shape?, e] at hsh
  | some o => exact (Array.getElem?_eq_some_iff.1 e).1

noncomputable def f26 : Array Field := match Tryz.prog.underlying 26 with
  | some (.struct fs) => fs
  | _ => #[]
theorem u26 : Tryz.prog.underlying 26 = some (.struct f26) := by kernel_rfl
theorem ct26 : Tryz.prog.cellTypes Tryz.prog.depth 26 = some [3, 3, 3, 3, 9, 9, 9, 3, 22] := by kernel_rfl
theorem n26 : Tryz.prog.cellsOf 26 = 9 := by kernel_rfl
theorem u22 : Tryz.prog.underlying 22 = some (.slice 108) := by kernel_rfl

theorem cell_int {W : World} {b : Nat} {v : Value} (h : Cell.okWide Tryz.prog W .any b 3 v) : ∃ n, v = .int .i64 n := by
  simp only [Cell.okWide, Tryz.underlying3] at h
  cases v <;> simp_all [Cell.ok, Tryz.underlying3]
theorem cell_str {W : World} {b : Nat} {v : Value} (h : Cell.okWide Tryz.prog W .any b 9 v) : ∃ s, v = .string s := by
  simp only [Cell.okWide, Tryz.underlying9] at h
  cases v <;> simp_all [Cell.ok, Tryz.underlying9]
theorem cell_sl {W : World} {b : Nat} {v : Value} (h : Cell.okWide Tryz.prog W .any b 22 v) : SlOK W v := by
  simp only [Cell.okWide, u22] at h
  cases v with
  | slice a l k =>
    cases a with
    | none =>
      have h' : Cell.ok Tryz.prog W .any b 22 (.slice none l k) := h
      simp only [Cell.ok, u22] at h'
      split at h' <;> (simp_all [SlOK] <;> rfl)
    | some a =>
      have h' : Cell.ok Tryz.prog W .any b 22 (.slice (some a) l k) := h
      simp only [Cell.ok, u22] at h'
      obtain ⟨hs, hb⟩ := has_lt h'.2.2
      obtain ⟨bb, o, sp⟩ := a
      cases hs
      exact .inr ⟨bb, o, l, k, rfl, hb⟩
  | _ => simp_all [Cell.ok]

theorem open_op {W : World} {b : Nat} {v : Value} (hv : Value.okWide Tryz.prog W .any b 26 v) : ∃ (op u a c : Int) (s t x : ByteArray) (d : Int) (sv : Value),
    v = .agg ⟨[.int .i64 op, .int .i64 u, .int .i64 a, .int .i64 c, .string s, .string t, .string x, .int .i64 d, sv]⟩ ∧ SlOK W sv := by
  simp only [Value.okWide, u26] at hv
  obtain ⟨⟨cs⟩, rfl, hsz, ts, hts, _, hall⟩ := hv
  rw [ct26] at hts
  cases hts
  rw [n26] at hsz
  match cs, hsz with
  | [v0, v1, v2, v3, v4, v5, v6, v7, v8], _ =>
    have g (i : Nat) (u : Nat) (v : Value) (h1 : ([v0, v1, v2, v3, v4, v5, v6, v7, v8] : List Value)[i]? = some v) (h2 : ([3, 3, 3, 3, 9, 9, 9, 3, 22] : List Nat)[i % 9]? = some u) : Cell.okWide Tryz.prog W .any b u v := by
      obtain ⟨u', hu, hc⟩ := hall i v (by simpa using h1)
      have : some u' = some u := hu.symm.trans h2
      cases this
      exact hc
    obtain ⟨op, rfl⟩ := cell_int (g 0 3 v0 rfl rfl)
    obtain ⟨u, rfl⟩ := cell_int (g 1 3 v1 rfl rfl)
    obtain ⟨a, rfl⟩ := cell_int (g 2 3 v2 rfl rfl)
    obtain ⟨c, rfl⟩ := cell_int (g 3 3 v3 rfl rfl)
    obtain ⟨s, rfl⟩ := cell_str (g 4 9 v4 rfl rfl)
    obtain ⟨t, rfl⟩ := cell_str (g 5 9 v5 rfl rfl)
    obtain ⟨x, rfl⟩ := cell_str (g 6 9 v6 rfl rfl)
    obtain ⟨d, rfl⟩ := cell_int (g 7 3 v7 rfl rfl)
    exact ⟨op, u, a, c, s, t, x, d, v8, rfl, cell_sl (g 8 22 v8 rfl rfl)⟩

theorem spec3 (H : Type) (ds : List (DataW H)) (h : ds.length = Tryz.f3.params.toList.length) : Rows.filesNoneSpec.fn H ds = { results := [.lit (.bool true)], args := ds } := by
  rw [Tryz.params3] at h
  match ds, h with
  | [d0], _ => rfl

noncomputable def boolT3 : Nat := match Tryz.f3.resultTypes.toList with
  | [t] => t
  | _ => 0
theorem law3B : lawB Tryz.prog Tryz.f3 boolT3 = true := by kernel_rfl

theorem lifted3 (os : Os) (started : os.Started) (H : Type) (enc : TypeId × Value → H) :
    ReturnsInHanded {} Tryz.checked os 3 .any (fun w args => (Rows.filesNoneSpec.pre enc Tryz.prog Tryz.f3 [] false w args ∧ laidMetH Tryz.prog laidL w) ∧ sizedMet enc Tryz.prog Tryz.f3 (OpenSpec.ofChange Rows.filesNoneSpec) false w args)
      (Rows.filesNoneSpec.post enc Tryz.prog Tryz.f3 false true false false) := by
  refine wrap_shape (C := Tryz.checked) (X := fun w _ => laidMetH Tryz.prog laidL w) (fun _ _ _ hh h => h.of_heap hh) own3 started (by kernel_rfl) Tryz.func3
    (ChangeSpec.witness_shaped (enc := enc) (C := Tryz.checked) (os := os) (X := fun w _ => laidMetH Tryz.prog laidL w) false (World.laidAll Tryz.prog os laidL) #[.agg #[.int .i64 0, .int .i64 0, .int .i64 0, .int .i64 0, .string ⟨#[]⟩, .string ⟨#[]⟩, .string ⟨#[]⟩, .int .i64 0, .slice none 0 0]] 8 (World.laidAll_os _ _ _) (shaped0 os _) (by kernel_rfl) (by kernel_rfl) (by kernel_rfl) (met os _)) ?_
  intro W base args ds gs before hval0 hW hL hsh
  have hval : ∀ (j : Nat) t v, Tryz.f3.params[j]? = some t → args[j]? = some v → Value.okWide Tryz.prog W .any base t v := hval0
  refine true_calls boolT3 law3B rfl (spec3 H) hW fun ps hA => ?_
  rw [Tryz.params3] at hA hval
  obtain ⟨v0, vs0, d0, ds0, p0, q0, hargs, rfl, rfl, h0, r0⟩ := trodAll_cons hA
  obtain ⟨rfl, rfl, rfl⟩ := trodAll_nil r0
  obtain rfl : args = #[v0] := by cases args; simp_all
  obtain ⟨op, u, a, c, s, t, x, d, sv, rfl, hs⟩ := open_op (hval 0 26 v0 rfl rfl)
  exact law_spec (three hsh) op u a c s t x d hs fun w' f => ⟨rfl, f⟩

theorem rowOver3 : Rows.FilesNoneSaid :=
  OpenClaim.holds_of_wide 3 Tryz.f3 rfl rfl rfl rfl rfl rfl rfl ⟨rfl, rfl, rfl, rfl, rfl⟩ rfl rfl rfl rfl rfl (by kernel_rfl) Tryz.func3 (by kernel_rfl)
    (of_decide_eq_true (by kernel_rfl)) (by unfold Func.isWrapper; first | (rw [if_pos (by decide +kernel)]; kernel_rfl) | (rw [if_neg (by decide +kernel)]; exact ⟨rfl, rfl⟩))
    (fun os started H enc _ => lifted3 os started H enc)

theorem filesNone_holds : Rows.FilesNoneCardSaid :=
  Claim7.holds_tied_plain_at .later [] [.data, .pinned] true (true, "6ac62c275c19d6acc161890aab2b202c1fb36f3661d54fbbfae391faefb7a369") false
    rowOver3 (fun _ h => by cases h) (by kernel_rfl) (fun _ h => by cases h) filesNone_row_tie rfl ⟨rfl, rfl⟩ (by kernel_rfl) rfl
    (fun f fn hf hfn => by
      obtain rfl : f = 3 := Option.some.inj ((show Tryz.prog.funcNamed "gatehouse/gatehouselaw14.FilesNone" = some 3 by kernel_rfl).symm.trans hf) |>.symm
      obtain rfl : fn = Tryz.f3 := (Option.some.inj (Tryz.func3.symm.trans hfn)).symm
      exact ⟨by kernel_rfl, fun j t ht => by
        have hm : t ∈ Tryz.f3.params.toList := by simpa using Array.mem_of_getElem? ht
        have hall : (Tryz.f3.params.toList.all fun u => !Tryz.prog.wantsStandIn u) = true := by kernel_rfl
        exact (show Tryz.prog.wantsStandIn t = false by simpa using List.all_eq_true.1 hall t hm)⟩)
    (by kernel_rfl)
end Go.Proofs.YtelkbliggjfdaaaGreatDoor
