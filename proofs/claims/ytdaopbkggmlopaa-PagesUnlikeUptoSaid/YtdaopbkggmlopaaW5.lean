/-
  PagesPlay returns true, and changes no argument, for every input of which no more than 1048576 values and letters are told.
-/
import Derived.Test.YtdaopbkggmlopaaP30
import Derived.Test.YtdaopbkggmlopaaW3
import Derived.Test.YtdaopbkggmlopaaVg
namespace Go.Proofs.Ytdaopbkggmlopaa
open Go.ChangeMaps Go Go.V Go.ChangeShapes Go.WideShapes Go.ChangeAt Go.RowKit
set_option linter.unusedVariables false

theorem ld_fr {w w' : World} {a : Addr} {v : Value} {K : Value → Prop} (h : w.cell? a = some v) (f : Fr (fun _ => False) w w') (k : K v) : vLd .one (.pointer (some a)) w' K := by
  show ld1 w' a K
  unfold ld1
  rw [cell_fr h f]
  exact k

theorem add_add (a : Addr) (m n : Nat) (h : a.spot = none) : (a.add m).add n = a.add (m + n) := by
  obtain ⟨b, o, s⟩ := a
  simp only at h
  subst h
  rw [addr_add, addr_add, addr_add, Nat.add_assoc]

theorem spot_none {w : World} {a : Addr} {v : Value} (h : w.cell? a = some v) : a.spot = none := by
  unfold World.cell? at h
  split at h
  · split at h
    · cases h
    · rename_i hs; simpa using hs
  · cases h

theorem add_zero' (a : Addr) : a.add 0 = a := by unfold Addr.add; simp

/-- cells that lie behind one another, from a on -/
def Lies (w : World) (a : Addr) (cs : List Value) : Prop := ∀ (j : Nat) v, cs[j]? = some v → w.cell? (a.add j) = some v

theorem Lies.fr {w w' : World} {a : Addr} {cs : List Value} (h : Lies w a cs) (f : Fr (fun _ => False) w w') : Lies w' a cs := fun j v hj => cell_fr (h j v hj) f

theorem strs_of {w : World} {a : Addr} {cap : Nat} {xs : List (List UInt8)} (h : Lies w a (xs.map str)) : Strs w (.slice (some a) xs.length cap) xs := by
  refine ⟨⟨_, _, rfl⟩, fun W f i x hi K hK => ?_, fun W f => ⟨by simp [lenV], fun K k => ?_⟩⟩
  · have hlt := (List.getElem?_eq_some_iff.1 hi).1
    refine ⟨by omega, by omega, ?_⟩
    rw [Int.toNat_natCast, Nat.mul_one]
    exact ld_fr (h i _ (by rw [List.getElem?_map, hi]; rfl)) f hK
  · show ldN W a ((xs.map str).length * 1) K
    rw [Nat.mul_one]
    exact ⟨_, rfl, h.fr f, k⟩

theorem strs_none {w : World} : Strs w (.slice none 0 0) [] := ⟨⟨_, _, rfl⟩, fun W f i x hi => by simp at hi, fun W f => src_nil⟩

theorem bulk_strs {H : Type} (ss : List ByteArray) : (ss.map (·.data.toList)).flatten.length + ss.length ≤ Rows.uptoBulkAll (strs (H := H) ss) := by
  induction ss with
  | nil => simp [strs, Rows.uptoBulkAll]
  | cons s ss ih =>
    have e : strs (H := H) (s :: ss) = .lit (.string s.data.toList) :: strs ss := rfl
    rw [e]
    simp only [List.map_cons, List.flatten_cons, List.length_append, List.length_cons, Rows.uptoBulkAll, Rows.uptoBulk]
    omega

theorem cells44 : Try.prog.cellsOf 44 = 5 := by kernel_rfl
theorem cells9' : Try.prog.cellsOf 9 = 1 := by kernel_rfl
theorem cells41' : Try.prog.cellsOf 41 = 1 := by kernel_rfl
theorem cells42' : Try.prog.cellsOf 42 = 1 := by kernel_rfl
theorem cells3q : Try.prog.cellsOf 3 = 1 := by kernel_rfl

theorem wf_u64 {a : Int} (w : (Lit.int .u64 a).wf = true) : ∃ x : Nat, a = x ∧ x < 18446744073709551616 := by
  have h : 0 ≤ a ∧ a ≤ 18446744073709551615 := by
    simpa [Lit.wf, IntKind.min, IntKind.max, IntKind.signed, IntKind.bits] using w
  exact ⟨a.toNat, by omega, by omega⟩

noncomputable def fields44 : Array Field := match Try.prog.underlying 44 with
  | some (.struct fs) => fs
  | _ => #[]
theorem u44 : Try.prog.underlying 44 = some (.struct fields44) := by kernel_rfl
theorem f44 : fields44.toList.map (fun f => (f.type, f.offset)) = [(3, 0), (3, 1), (3, 2), (41, 3), (42, 4)] := by kernel_rfl

theorem one_of {cs : List Value} {v : Value} {o : Nat} (h : (cs.drop o).take 1 = [v]) : cs[o]? = some v := by
  have := congrArg (·[0]?) h
  simpa [List.getElem?_take, List.getElem?_drop] using this

section
variable {H : Type} {enc : TypeId × Value → H} {W : World} {sp : Nat → Bool} {hd : Bool}

theorem open_op {fuel : Nat} {cs : List Value} {y : DataW H × List MemPlace} (h : DataW.trod enc Try.prog W 0 (fun _ => true) true fuel 44 cs = some y) (hb : Rows.uptoBulk y.1 ≤ 1048576) :
    ∃ o : OpV, cs = o.cells ∧ o.ok W := by
  obtain ⟨xs, n, _, rfl, hl, hlen, hf⟩ := DataW.trod_struct u44 h
  have hsz : fields44.size = 5 := by
    have := congrArg List.length f44
    simpa using this
  rw [hsz] at hlen
  have hfield : ∀ (i t o : Nat), ([(3, 0), (3, 1), (3, 2), (41, 3), (42, 4)] : List (Nat × Nat))[i]? = some (t, o) → DataW.trod enc Try.prog W 0 (fun _ => true) true n t ((cs.drop o).take (Try.prog.cellsOf t)) = xs[i]? := by
    intro i t o hi
    have h1 : (fields44.toList.map (fun f => (f.type, f.offset)))[i]? = some (t, o) := by rw [f44]; exact hi
    rw [List.getElem?_map] at h1
    obtain ⟨f, hfi, he⟩ := Option.map_eq_some_iff.1 h1
    simp only [Prod.mk.injEq] at he
    have := hf i f (by simpa using hfi)
    rw [he.1, he.2] at this
    exact this
  rw [cells44] at hl
  match xs, hlen with
  | [y0, y1, y2, y3, y4], _ =>
    have h0 := hfield 0 3 0 rfl
    have h1 := hfield 1 3 1 rfl
    have h2 := hfield 2 3 2 rfl
    have h3 := hfield 3 41 3 rfl
    have h4 := hfield 4 42 4 rfl
    rw [cells3q] at h0 h1 h2
    rw [cells41'] at h3
    rw [cells42'] at h4
    obtain ⟨a0, c0, rfl, w0⟩ := DataW.trod_int Try.underlying3 h0
    obtain ⟨a1, c1, rfl, w1⟩ := DataW.trod_int Try.underlying3 h1
    obtain ⟨a2, c2, rfl, w2⟩ := DataW.trod_int Try.underlying3 h2
    obtain ⟨a4, c4, rfl, w4⟩ := DataW.trod_int Try.underlying42 h4
    obtain ⟨x, rfl, hx⟩ := wf_u64 w4
    have hcs : ∀ v, cs[3]? = some v → cs = [it a0, it a1, it a2, v, .int .u64 x] := by
      intro v h3
      have d0 := one_of c0
      have d1 := one_of c1
      have d2 := one_of c2
      have d4 := one_of c4
      match cs, hl with
      | [p, q, r, s, t], _ =>
        simp only [List.getElem?_cons_zero, List.getElem?_cons_succ, Option.some.injEq] at d0 d1 d2 d4 h3
        rw [d0, d1, d2, d4, h3]
    simp only [List.map_cons, List.map_nil, Rows.uptoBulk, Rows.uptoBulkAll] at hb
    rcases open_strings Try.underlying41 Try.underlying9 cells9' h3 with ⟨c3, rfl⟩ | ⟨a, len, cap, ss, c3, _, hle, hm, hz, rfl, hcell, _⟩
    · exact ⟨⟨a0, a1, a2, .slice none 0 0, [], x⟩, hcs _ (one_of c3), ⟨(wf_i64 w1).1, (wf_i64 w1).2, hx, strs_none, by simp, by simp⟩⟩
    · simp only [if_true] at hz
      have hb3 := bulk_strs (H := H) (ss.take len)
      simp only [Rows.uptoBulk] at hb
      have hlen : ((ss.take len).map (·.data.toList)).length = len := by simp; omega
      have hL : Lies W a (((ss.take len).map (·.data.toList)).map str) := by
        intro j v hj
        rw [List.getElem?_map, List.getElem?_map] at hj
        obtain ⟨z, hz2, rfl⟩ := Option.map_eq_some_iff.1 hj
        obtain ⟨s, hs, rfl⟩ := Option.map_eq_some_iff.1 hz2
        have hjl := (List.getElem?_eq_some_iff.1 hs).1
        simp only [List.length_take] at hjl
        rw [List.getElem?_take_of_lt (by omega)] at hs
        rw [hcell j (by omega)]
        simp [hs]
      have := strs_of (cap := cap) hL
      rw [hlen] at this
      refine ⟨⟨a0, a1, a2, .slice (some a) len cap, (ss.take len).map (·.data.toList), x⟩, hcs _ (one_of c3), ⟨(wf_i64 w1).1, (wf_i64 w1).2, hx, this, ?_, ?_⟩⟩
      · show ((ss.take len).map (·.data.toList)).length ≤ 1048576
        rw [hlen]
        have : (ss.take len).length = len := by simp; omega
        omega
      · show ((ss.take len).map (·.data.toList)).flatten.length ≤ 1048576
        omega

theorem bulk_mem {ds : List (DataW H)} {d : DataW H} (h : d ∈ ds) : Rows.uptoBulk d ≤ Rows.uptoBulkAll ds := by
  induction ds with
  | nil => cases h
  | cons x r ih =>
    simp only [Rows.uptoBulkAll]
    rcases List.mem_cons.1 h with rfl | h
    · omega
    · have := ih h; omega

theorem open_ops {v : Value} {fuel : Nat} {y : DataW H × List MemPlace} (h : DataW.trod enc Try.prog W 0 (fun _ => true) true fuel 36 [v] = some y) (hb : Rows.uptoBulk y.1 ≤ 1048576) : ∃ os : List OpV, Ops W v os := by
  rcases DataW.trod_slice Try.underlying36 h with ⟨hv, _⟩ | ⟨a, len, cap, elems, rest, n, _, hv, rfl, _, hle, hm, hlen, hel, _, _⟩
  · simp only [List.cons.injEq, and_true] at hv
    subst hv
    exact ⟨[], ⟨_, _, rfl⟩, fun W f i o hi => by simp at hi, by simp⟩
  · simp only [List.cons.injEq, and_true] at hv
    subst hv
    simp only [Rows.uptoBulk] at hb
    have each : ∀ i, i < len → ∃ o : OpV, o.ok W ∧ ∀ j v, o.cells[j]? = some v → W.cell? ((a.add (i * 5)).add j) = some v := by
      intro i hi
      have h1 := hel i hi
      rw [cells44, List.getElem?_eq_getElem (by omega)] at h1
      obtain ⟨cs, hcs, ht⟩ := Option.bind_eq_some_iff.1 h1
      have hm : (elems[i]).1 ∈ elems.map (·.1) := List.mem_map_of_mem (List.getElem_mem _)
      have hbm := bulk_mem hm
      obtain ⟨o, rfl, ho⟩ := open_op ht (by omega)
      refine ⟨o, ho, fun j v hj => ?_⟩
      have hc := (World.cells?_some hcs).2.2 j (by have := (List.getElem?_eq_some_iff.1 hj).1; simpa [OpV.cells] using this)
      rw [hc, hj]
    obtain ⟨os, hos, get⟩ := exists_list len each
    refine ⟨os, ⟨_, _, by rw [hos]⟩, fun W' f i o hi K k => ?_, fun o ho => ?_⟩
    · have hlt := (List.getElem?_eq_some_iff.1 hi).1
      rw [hos] at hlt
      refine ⟨by omega, by omega, ?_⟩
      rw [Int.toNat_natCast]
      exact ⟨o.cells, rfl, fun j v hj => cell_fr ((get i o hi).2 j v hj) f, k⟩
    · obtain ⟨i, hi⟩ := List.mem_iff_getElem?.1 ho
      exact (get i o hi).1
end

theorem spec5 (H : Type) (ds : List (DataW H)) (h : ds.length = Try.f5.params.toList.length) : Rows.pagesPlaySpec.fn H ds = { results := [.lit (.bool true)], args := ds } := by
  rw [Try.params5] at h
  match ds, h with
  | [d1, d2], _ => rfl

theorem law5B : lawB Try.prog Try.f5 4 = true := by kernel_rfl

set_option maxRecDepth 100000 in
theorem lifted5 (os : Os) (started : os.Started) (H : Type) (enc : TypeId × Value → H) (F : Stop.Interp) :
    ReturnsInHanded {} Try.checked os 5 .any ((Rows.OpenSpec.upto Rows.pagesPlaySpec).pre6 enc Try.prog Try.f5 Rows.pagesPlayUptoRow.domain false) (((Rows.OpenSpec.upto Rows.pagesPlaySpec).at F).post enc Try.prog Try.f5 false true false false) := by
  refine returnsInHanded_of_cond (C := Try.checked) (k := Rows.uptoSmall) rfl own3 started (by kernel_rfl) Try.func5
    (OpenSpec.witness (enc := enc) (C := Try.checked) (k := Rows.uptoSmall) (x := ([.lit (.int .i64 0), .nil], [], [])) rfl false ⟨#[], #[.int .i64 0, .slice none 0 0], []⟩ 8 (by kernel_rfl) (by kernel_rfl) (by kernel_rfl) (by kernel_rfl) (by kernel_rfl) (by kernel_rfl)) ?_
  intro W base args ds gs before hval0 hW hcnd hk _
  have hval : ∀ (j : Nat) t v, Try.f5.params[j]? = some t → args[j]? = some v → Value.okWide Try.prog W .any base t v := hval0
  refine true_calls 4 law5B rfl (spec5 H) hW fun ps hA => ?_
  obtain ⟨_, _, _, hV, _⟩ := hW
  obtain ⟨rfl, _⟩ := trodVars_none hV
  rw [Try.params5] at hA hval
  obtain ⟨v0, vs0, d0, ds0, p0, q0, hargs, rfl, rfl, h0, r0⟩ := trodAll_cons hA
  obtain ⟨v1, vs1, d1, ds1, p1, q1, rfl, rfl, rfl, h1, r1⟩ := trodAll_cons r0
  obtain ⟨rfl, rfl, rfl⟩ := trodAll_nil r1
  obtain rfl : args = #[v0, v1] := by cases args; simp_all
  obtain ⟨a0, rfl, rfl, rfl, w0⟩ := open_int Try.underlying3 (hval 0 3 v0 rfl rfl) h0
  obtain ⟨a1, len, cap, rfl⟩ := okWide_slice Try.underlying36 (hval 1 36 v1 rfl rfl)
  obtain ⟨fuel, hf⟩ := h1
  have hb : Rows.uptoBulk d1 ≤ 1048576 := by
    have : Rows.uptoBulkAll ([.lit (.int .i64 a0), d1] ++ []) ≤ 1048576 := of_decide_eq_true hk
    simp only [List.append_nil, Rows.uptoBulkAll] at this
    omega
  obtain ⟨os', ho⟩ := open_ops (v := .slice a1 len cap) hf hb
  exact law5 ho fun w' f => ⟨rfl, f⟩

theorem over5 : Rows.pagesPlayUptoRow.holds Try.pinned (Rows.OpenSpec.upto Rows.pagesPlaySpec) :=
  OpenClaim.holds_of_cond 5 Try.f5 rfl rfl rfl rfl rfl rfl rfl ⟨rfl, rfl, rfl, rfl, rfl⟩ rfl rfl rfl rfl rfl (by kernel_rfl) Try.func5 (by kernel_rfl)
    (of_decide_eq_true (by kernel_rfl)) (by unfold Func.isWrapper; first | (rw [if_pos (by decide +kernel)]; kernel_rfl) | (rw [if_neg (by decide +kernel)]; exact ⟨rfl, rfl⟩))
    (fun os started H enc _ F => lifted5 os started H enc F)

theorem pagesPlay_holds : Rows.PagesPlayUptoSaid := over5
end Go.Proofs.Ytdaopbkggmlopaa
