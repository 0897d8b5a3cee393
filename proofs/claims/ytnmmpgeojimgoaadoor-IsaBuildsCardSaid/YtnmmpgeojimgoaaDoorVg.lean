/-
  The engine, part 7: rows of statements that say 'true'. Own work.
-/
import Derived.Test.YtnmmpgeojimgoaaDoorVf
import Derived.WalkKit
import Derived.ProofKit
import Derived.OpenShut
import Derived.ChangeMaps5
import Derived.Carry
import Derived.JoinedCond
import Derived.SliceStrings
set_option linter.unusedVariables false
namespace Go.V
open Go Go.RowKit Go.ChangeShapes Go.WideShapes Go.ChangeMaps Go.ChangeAt

theorem below_of_fr0 {w w' : World} (h : Fr (fun _ => False) w w') : Below w.heap.size w w' := ⟨h.os, h.tape, h.output, h.size, fun k hk => h.same k hk id⟩

theorem cell_fr {w w' : World} {a : Addr} {v : Value} (h : w.cell? a = some v) (f : Fr (fun _ => False) w w') : w'.cell? a = some v := by
  have hb : a.block < w.heap.size := by
    unfold World.cell? at h
    split at h
    · rename_i hq; exact lt_of_blk hq
    · cases h
  rw [World.cell?_of_block (w := w) (f.same _ hb id)]; exact h

theorem trodAll_keep {H : Type} {enc : TypeId × Value → H} {P : Program} (hl : laidOutB P = true) {W W' : World} (hb : Below W.heap.size W W') :
    ∀ (ts : List TypeId) (vs : List Value) (ds : List (DataW H)) (ps : List MemPlace), (∀ t ∈ ts, P.readableRec t = true ∧ t < P.types.size) → DataW.TrodAll enc P W 0 (fun _ => true) true ts vs ds ps → (∀ x ∈ ps, x.block < W.heap.size) →
      DataW.TrodAll enc P W' 0 (fun b => decide (b < W.heap.size)) true ts vs ds ps
  | [], vs, ds, ps, _, h, _ => by
    obtain ⟨rfl, rfl, rfl⟩ := trodAll_nil h
    exact trodAll_mk0
  | t :: ts, vs, ds, ps, hr, h, hlt => by
    obtain ⟨v, vs', d, ds', p, q, rfl, rfl, rfl, h0, h1⟩ := trodAll_cons h
    exact trodAll_cons_mk (Below.trod hl (hr t (by simp)).1 (hr t (by simp)).2 h0 hb (fun x hx => hlt x (by simp [hx])))
      (trodAll_keep hl hb ts vs' ds' q (fun u hu => hr u (by simp [hu])) h1 (fun x hx => hlt x (by simp [hx])))

theorem trodAll_len {H : Type} {enc : TypeId × Value → H} {P : Program} {W : World} {b : Nat} {sp : Nat → Bool} {hd : Bool} :
    ∀ (ts : List TypeId) (vs : List Value) (ds : List (DataW H)) (ps : List MemPlace), DataW.TrodAll enc P W b sp hd ts vs ds ps → ds.length = ts.length
  | [], vs, ds, ps, h => by
    obtain ⟨rfl, rfl, rfl⟩ := trodAll_nil h
    rfl
  | t :: ts, vs, ds, ps, h => by
    obtain ⟨v, vs', d, ds', p, q, rfl, rfl, rfl, h0, h1⟩ := trodAll_cons h
    simp [trodAll_len ts vs' ds' q h1]

theorem exists_list {α : Type} {P : Nat → α → Prop} : ∀ (n : Nat), (∀ i, i < n → ∃ o, P i o) → ∃ os : List α, os.length = n ∧ ∀ (i : Nat) o, os[i]? = some o → P i o
  | 0, _ => ⟨[], rfl, fun i o h => by simp at h⟩
  | n + 1, h => by
    obtain ⟨os, hl, ho⟩ := exists_list n fun i hi => h i (by omega)
    obtain ⟨x, hx⟩ := h n (by omega)
    refine ⟨os ++ [x], by simp [hl], fun i o hi => ?_⟩
    by_cases hlt : i < os.length
    · rw [List.getElem?_append_left hlt] at hi
      exact ho i o hi
    · rw [List.getElem?_append_right (by omega)] at hi
      have h0 : i - os.length = 0 := by
        have := (List.getElem?_eq_some_iff.1 hi).1
        simp only [List.length_singleton] at this
        omega
      rw [h0] at hi
      have : i = n := by omega
      subst this
      simp only [List.getElem?_cons_zero, Option.some.injEq] at hi
      subst hi
      exact hx

/-- may each of a function's parameters be read, and is what it answers one bool? -/
def lawB (P : Program) (f : Func) (tb : TypeId) : Bool :=
  laidOutB P && (f.params.toList.all fun t => P.readableRec t && Nat.blt t P.types.size) && (f.resultTypes.toList == [tb]) && (match P.underlying tb with | some .bool => true | _ => false)

theorem post_true {H : Type} {enc : TypeId × Value → H} {P : Program} {f : Func} {s : ChangeSpec} {W W' : World} {args : Array Value} {ds gs : List (DataW H)} {before : List MemPlace} (tb : TypeId) (hlaw : lawB P f tb = true) (hv : s.vars = [])
    (hs : ∀ (ds : List (DataW H)), ds.length = f.params.toList.length → s.fn H ds = { results := [.lit (.bool true)], args := ds })
    (hW : DataW.Whole enc P f.params.toList s.vars false W args.toList ds gs before) (hb : Below W.heap.size W W') : s.post enc P f false true false false W args (.bool true) W' := by
  unfold lawB at hlaw
  simp only [Bool.and_eq_true, beq_iff_eq, List.all_eq_true] at hlaw
  obtain ⟨⟨⟨hl, hp⟩, hr⟩, hbool⟩ := hlaw
  have hbool : P.underlying tb = some .bool := by
    revert hbool
    cases h : P.underlying tb with
    | none => intro h; cases h
    | some d => cases d <;> intro h <;> first | rfl | cases h
  have hW' := hW
  obtain ⟨p, q, hA, hV, rfl, hfz, hnd⟩ := hW
  rw [hv] at hV
  obtain ⟨rfl, rfl⟩ := trodVars_none hV
  have hf := hs (ds ++ []) (by rw [List.append_nil]; exact trodAll_len _ _ _ _ hA)
  have hlt : ∀ x ∈ p, x.block < W.heap.size := fun x hx => hW'.lt x (by simpa using hx)
  refine ⟨ds, [], p ++ [], [], p, [], hW', ?_, ?_, ?_, hb.frame _, fun h => by cases h⟩
  · rw [hf, hr]
    have hsz : f.resultTypes.size = 1 := by rw [← Array.length_toList, hr]; rfl
    rw [hsz]
    exact trodAll_cons_mk (shut_bool hbool _) trodAll_mk0
  · rw [hf]
    simp only [List.append_nil]
    exact trodAll_keep hl hb _ _ _ _ (fun t ht => ⟨(hp t ht).1, Nat.le_of_ble_eq_true (hp t ht).2⟩) hA hlt
  · rw [hf, hv]
    rfl

/-- a law of which a contract holds -/
theorem true_calls {H : Type} {enc : TypeId × Value → H} {P : Program} {fid : FuncId} {f : Func} {s : ChangeSpec} {W : World} {args : Array Value} {ds gs : List (DataW H)} {before : List MemPlace} (tb : TypeId) (hlaw : lawB P f tb = true) (hv : s.vars = [])
    (hs : ∀ (ds : List (DataW H)), ds.length = f.params.toList.length → s.fn H ds = { results := [.lit (.bool true)], args := ds })
    (hW : DataW.Whole enc P f.params.toList s.vars false W args.toList ds gs before)
    (hc : ∀ ps, DataW.TrodAll enc P W 0 (fun _ => true) true f.params.toList args.toList ds ps → Ret P fid args W fun v w' => v = .bool true ∧ Fr (fun _ => False) W w') :
    Calls P fid args W fun e W' => ∃ v, e = .returned v ∧ s.post enc P f false true false false W args v W' := by
  have hW' := hW
  obtain ⟨p, q, hA, _⟩ := hW
  refine (callsIn_wide.1 (hc p hA).2).mono fun e W' ⟨v, he, hv', hf⟩ => ?_
  subst hv'
  exact ⟨_, he, post_true tb hlaw hv hs hW' (below_of_fr0 hf)⟩

end Go.V
