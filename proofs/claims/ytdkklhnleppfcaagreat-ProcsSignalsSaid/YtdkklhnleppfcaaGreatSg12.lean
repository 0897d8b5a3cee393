/-
  THE EXECUTOR, part 20: the steps of the canonical run, one by one. Own work; generic in the program.
-/
import Derived.Test.YtdkklhnleppfcaaGreatSg11
set_option linter.unusedVariables false
set_option linter.unusedSimpArgs false

set_option linter.unusedVariables false
set_option maxRecDepth 20000
namespace Go.X
open Go Go.V Go.RowKit

section
variable {P : Program} {N : Nat} {C : Caller} {ops : Array Oper} {tbl : List (List Nat)} {e0 : Ev} {base : Nat} {pt pt' : Pt} {s : DS}

theorem apart_eq {a b : PN} : ∀ {l : List PN}, l.Pairwise Apart → a ∈ l → b ∈ l → a.i = b.i → a = b
  | [], _, ha, _, _ => by cases ha
  | y :: l, hl, ha, hb, e => by
    obtain ⟨g1, g2⟩ := List.pairwise_cons.1 hl
    rcases List.mem_cons.1 ha with ha | ha
    · rcases List.mem_cons.1 hb with hb | hb
      · rw [ha, hb]
      · exact absurd (by rw [← ha]; exact e) (g1 b hb).2
    · rcases List.mem_cons.1 hb with hb | hb
      · exact absurd (by rw [← hb]; exact e.symm) (g1 a ha).2
      · exact apart_eq g2 ha hb e

def notFix (s : DS) : Prop := ∀ g, s.k ≠ .fix g

theorem norole (hst : Step ops tbl pt s) (hw : WF P N ops tbl e0 base pt) : NoRole pt.pn s.i := fun q hq => ⟨hst.fresh _ (hw.mine q hq).1, fun x hx => hst.fresh _ ((hw.keys q hq).2.2 x hx).2⟩

theorem wf_new {o : Oper} {v : Value} {bk : Blk} (hst : Step ops tbl pt s) (hw : WF P N ops tbl e0 base pt) (ho : ops[s.i]? = some o) (hg : gRun (ops.toList.map (·.dst)) o.guard (restr s.lk pt.e) = some true)
    (h : xNew P N pt.C.next (restr s.lk pt.e) o.op = some (v, bk)) : WF P N ops tbl e0 base (Pt.note { pt with C := pt.C.new bk, pn := ⟨s.i, pt.C.next, .i64, []⟩ :: pt.pn } ops s v) := by
  have hget : ∀ b, (pt.C.new bk).heap.get b = if b = pt.C.next then some bk else pt.C.heap.get b := fun b => get_set _ _ _ _
  have hgo : ∀ q ∈ pt.pn, (pt.C.new bk).heap.get q.n = pt.C.heap.get q.n := fun q hq => by rw [hget, if_neg (Nat.ne_of_lt (hw.names q hq).1)]
  refine WF.note (pt' := { pt with C := pt.C.new bk, pn := ⟨s.i, pt.C.next, .i64, []⟩ :: pt.pn }) hst rfl rfl hw ⟨fun b hb => ?_, Nat.le_succ_of_le hw.bs⟩ ?_ ?_ ?_ ?_ ?_ ?_ (.inr ⟨o, ho, ?_⟩)
  · have hb' : pt.C.next + 1 ≤ b := hb
    show (pt.C.new bk).heap.get b = none
    rw [hget, if_neg (by omega)]
    exact hw.nx b (by omega)
  · intro q hq
    rcases List.mem_cons.1 hq with rfl | hq
    · exact ⟨Nat.lt_succ_self _, bk, by show (pt.C.new bk).heap.get _ = _; rw [hget, if_pos rfl], xNew_alive h, fun e => absurd rfl e⟩
    · obtain ⟨h1, bk', h2, h3, h4⟩ := hw.names q hq
      exact ⟨Nat.lt_succ_of_lt h1, bk', by show (pt.C.new bk).heap.get _ = _; rw [hgo q hq]; exact h2, h3, h4⟩
  · exact List.pairwise_cons.2 ⟨fun q hq => ⟨(Nat.ne_of_lt (hw.names q hq).1).symm, fun e => hst.fresh _ (hw.mine q hq).1 e.symm⟩, hw.nod⟩
  · intro q hq
    rcases List.mem_cons.1 hq with rfl | hq
    · exact ⟨List.nodup_nil, List.nodup_nil, fun x hx => by cases hx⟩
    · exact ⟨(hw.keys q hq).1, (hw.keys q hq).2.1, fun x hx => ⟨((hw.keys q hq).2.2 x hx).1, .inl ((hw.keys q hq).2.2 x hx).2⟩⟩
  · intro p hp
    obtain ⟨Q, h1, h5, h2⟩ := hw.reads p hp
    refine ⟨Q, fun b k hb hk => ?_, fun b hb => h5 b (Nat.le_trans (Nat.le_succ _) hb), h2⟩
    obtain ⟨h3, h4⟩ := h1 b k hb hk
    have hne : b ≠ pt.C.next := fun e => by rw [e, hw.nx _ (Nat.le_refl _)] at h3; cases h3
    refine ⟨by show (pt.C.new bk).heap.get _ = _; rw [hget, if_neg hne]; exact h3, ?_⟩
    rw [List.map_cons, List.mem_cons]
    exact fun h => h.elim hne h4
  · intro q hq
    rcases List.mem_cons.1 hq with rfl | hq
    · exact ⟨.inr rfl, hw.bs⟩
    · exact ⟨.inl (hw.mine q hq).1, (hw.mine q hq).2⟩
  · refine AllOK.mono (pt := pt) (rs0 := pt.rs) ?_ (fun r hr o e hl => ?_) (fun _ h => h) hw.lights
    · exact fun i hi => hi
    refine Light.mono hl (fun q hq => .inr ⟨q, List.mem_cons_of_mem _ hq, rfl, rfl, fun h => .inl ⟨h, hgo q hq⟩, fun h => ⟨h, rfl⟩⟩) (fun q hq _ => ⟨q, List.mem_cons_of_mem _ hq, rfl, rfl, fun x hx => hx⟩) (fun p hp => .inr hp) (si := s.i) (fun e => hst.fresh _ (List.mem_map_of_mem (f := fun r : Rc => r.s.i) hr) e) (fun q' hq' => ?_)
    rcases List.mem_cons.1 (show q' ∈ PN.mk s.i pt.C.next .i64 [] :: pt.pn from hq') with rfl | hq'
    · exact ⟨.inl rfl, fun x hx => by cases hx⟩
    · exact ⟨.inr ⟨q', hq', rfl⟩, fun x hx => .inr ⟨q', hq', rfl, hx⟩⟩
  · refine .new hg ⟨s.i, pt.C.next, .i64, []⟩ List.mem_cons_self rfl bk h (.inl ⟨rfl, by show (pt.C.new bk).heap.get _ = _; rw [hget, if_pos rfl]⟩) fun q hq x hx => ?_
    rcases List.mem_cons.1 (show q ∈ PN.mk s.i pt.C.next .i64 [] :: pt.pn from hq) with rfl | hq
    · cases hx
    · exact hst.fresh _ ((hw.keys q hq).2.2 x hx).2

theorem wf_read {o : Oper} {v : Value} (hst : Step ops tbl pt s) (hw : WF P N ops tbl e0 base pt) (ho : ops[s.i]? = some o) (hg : gRun (ops.toList.map (·.dst)) o.guard (restr s.lk pt.e) = some true)
    (h : xRd P N ⟨killN pt.pn pt.C.heap, 0⟩ (restr s.lk pt.e) o.op = some v) : WF P N ops tbl e0 base (Pt.note { pt with pr := ⟨s.i, o.op, restr s.lk pt.e, v⟩ :: pt.pr } ops s v) := by
  refine WF.same (pt' := { pt with pr := ⟨s.i, o.op, restr s.lk pt.e, v⟩ :: pt.pr }) hst hw rfl rfl (fun p hp => List.mem_cons_of_mem _ hp) (fun i hi => hi) rfl rfl ?_ (.inr ⟨o, ho, ?_⟩)
  · intro p hp
    rcases List.mem_cons.1 hp with rfl | hp
    · refine ⟨killN pt.pn pt.C.heap, fun b k hb hk => ?_, fun b hb => ?_, fun nx => by rw [xRd_nx (b := 0)]; exact h⟩
      rw [killN_get] at hb
      split at hb
      · cases hb; exact absurd rfl hk
      · rename_i hn; exact ⟨hb, hn⟩
      · rw [killN_get, if_neg]
        · exact hw.nx b hb
        · intro hm
          obtain ⟨q, hq, e⟩ := List.mem_map.1 hm
          have := (hw.names q hq).1
          omega
    · exact hw.reads p hp
  · exact .read hg ⟨s.i, o.op, restr s.lk pt.e, v⟩ List.mem_cons_self rfl rfl rfl rfl (show NoRole pt.pn s.i from norole hst hw)

theorem wf_ins {o : Oper} {j : Nat} {pt1 : Pt} (hst : Step ops tbl pt s) (hw : WF P N ops tbl e0 base pt) (hk : s.k = .ins j) (ho : ops[s.i]? = some o) (hg : gRun (ops.toList.map (·.dst)) o.guard (restr s.lk pt.e) = some true)
    (h : dIns P N pt s.i j (restr s.lk pt.e) o.op = some pt1) : WF P N ops tbl e0 base (pt1.note ops s undef) := by
  obtain ⟨t, x, k, u, kd, n, v, q, ha, hx, hkk, hu, hq, hqi, hkd, hc, hkd2, hfresh, rfl⟩ := dIns_out hw h
  have hget : ∀ b, (pt.C.put q.n (.mapI kd ((n, v) :: q.ins.map (·.2)) (q.ins.length + 1) none)).heap.get b = if b = q.n then some (.mapI kd ((n, v) :: q.ins.map (·.2)) (q.ins.length + 1) none) else pt.C.heap.get b := fun b => get_set _ _ _ _
  have hsame : ∀ q2 ∈ pt.pn, q2.i = j → q2 = q := fun q2 h2 e => apart_eq hw.nod h2 hq (e.trans hqi.symm)
  have hother : ∀ q2 ∈ pt.pn, q2.i ≠ j → q2.n ≠ q.n := by
    intro q2 h2 e e2
    have h3 := pnAt_mem hw.nod h2
    have h4 := pnAt_mem hw.nod hq
    rw [e2, h4] at h3
    cases h3
    exact e hqi
  refine WF.note (pt' := { pt with C := pt.C.put q.n (.mapI kd ((n, v) :: q.ins.map (·.2)) (q.ins.length + 1) none), pn := addIns j kd (s.i, n, v) pt.pn }) hst rfl rfl hw ⟨fun b hb => ?_, hw.bs⟩ ?_ (addIns_apart hw.nod) ?_ ?_ ?_ ?_ (.inr ⟨o, ho, ?_⟩)
  · show (pt.C.put q.n _).heap.get b = none
    have hb' : pt.C.next ≤ b := hb
    have := (hw.names q hq).1
    rw [hget, if_neg (by omega)]
    exact hw.nx b hb'
  · intro q' hq'
    obtain ⟨q2, h2, rfl⟩ := addIns_mem hq'
    obtain ⟨h1, bk', h3, h4, h5⟩ := hw.names q2 h2
    split
    · rename_i e
      have := hsame q2 h2 e
      subst this
      exact ⟨h1, .mapI kd ((n, v) :: q2.ins.map (·.2)) (q2.ins.length + 1) none, by show (pt.C.put _ _).heap.get _ = _; rw [hget, if_pos rfl], mapI_ne, fun _ => rfl⟩
    · rename_i e
      exact ⟨h1, bk', by show (pt.C.put _ _).heap.get _ = _; rw [hget, if_neg (hother q2 h2 e)]; exact h3, h4, h5⟩
  · intro q' hq'
    obtain ⟨q2, h2, rfl⟩ := addIns_mem hq'
    obtain ⟨h1, h3, h4⟩ := hw.keys q2 h2
    split
    · rename_i e
      have := hsame q2 h2 e
      subst this
      refine ⟨List.nodup_cons.2 ⟨hfresh, h1⟩, List.nodup_cons.2 ⟨fun hm => ?_, h3⟩, fun x hx => ?_⟩
      · obtain ⟨y, hy, e2⟩ := List.mem_map.1 hm
        exact hst.fresh _ (h4 y hy).2 e2
      · rcases List.mem_cons.1 hx with rfl | hx
        · exact ⟨by show q2.i ∈ _; rw [hqi]; exact hst.ins j hk, .inr rfl⟩
        · exact ⟨(h4 x hx).1, .inl (h4 x hx).2⟩
    · exact ⟨h1, h3, fun x hx => ⟨(h4 x hx).1, .inl (h4 x hx).2⟩⟩
  · intro p hp
    obtain ⟨Q, h1, h5, h2⟩ := hw.reads p hp
    refine ⟨Q, fun b k hb hk => ?_, h5, h2⟩
    obtain ⟨h3, h4⟩ := h1 b k hb hk
    refine ⟨?_, by show b ∉ (addIns j kd (s.i, n, v) pt.pn).map (·.n); rw [addIns_names]; exact h4⟩
    show (pt.C.put q.n _).heap.get b = some k
    rw [hget, if_neg (fun e => h4 (by rw [e]; exact List.mem_map_of_mem hq))]
    exact h3
  · intro q' hq'
    obtain ⟨q2, h2, rfl⟩ := addIns_mem hq'
    split
    · exact ⟨.inl (hw.mine q2 h2).1, (hw.mine q2 h2).2⟩
    · exact ⟨.inl (hw.mine q2 h2).1, (hw.mine q2 h2).2⟩
  · refine AllOK.mono (pt := pt) (rs0 := pt.rs) ?_ (fun r hr o e hl => ?_) (fun _ h => h) hw.lights
    · exact fun i hi => hi
    refine Light.mono hl (fun q2 h2 => .inr ⟨_, mem_addIns h2, ?_⟩) (fun q2 h2 hne => ⟨_, mem_addIns h2, ?_⟩) (fun p hp => .inr hp) (si := s.i) (fun e => hst.fresh _ (List.mem_map_of_mem (f := fun r : Rc => r.s.i) hr) e) (fun q' hq' => ?_)
    · by_cases e : q2.i = j
      · have := hsame q2 h2 e
        subst this
        rw [if_pos e]
        exact ⟨rfl, rfl, fun h => .inr ⟨List.cons_ne_nil _ _, by rw [hc, h]; rfl⟩, fun h => ⟨List.cons_ne_nil _ _, (hkd2 h).symm⟩⟩
      · rw [if_neg e]
        exact ⟨rfl, rfl, fun h => .inl ⟨h, by show (pt.C.put _ _).heap.get _ = _; rw [hget, if_neg (hother q2 h2 e)]⟩, fun h => ⟨h, rfl⟩⟩
    · by_cases e : q2.i = j
      · have := hsame q2 h2 e
        subst this
        rw [if_pos e]
        exact ⟨rfl, (hkd2 hne).symm, fun x hx => List.mem_cons_of_mem _ hx⟩
      · rw [if_neg e]
        exact ⟨rfl, rfl, fun x hx => hx⟩
    · obtain ⟨q2, h2, rfl⟩ := addIns_mem (show q' ∈ addIns j kd (s.i, n, v) pt.pn from hq')
      split
      · refine ⟨.inr ⟨q2, h2, rfl⟩, fun x hx => ?_⟩
        rcases List.mem_cons.1 hx with rfl | hx
        · exact .inl rfl
        · exact .inr ⟨q2, h2, rfl, hx⟩
      · exact ⟨.inr ⟨q2, h2, rfl⟩, fun x hx => .inr ⟨q2, h2, rfl, hx⟩⟩
  · have := mem_addIns (kd := kd) (x := (s.i, n, v)) (j := j) hq
    rw [if_pos hqi] at this
    refine .ins hg _ this t x k u n v ha hx hkk hu hkd List.mem_cons_self rfl fun q' hq' => ?_
    obtain ⟨q2, h2, rfl⟩ := addIns_mem (show q' ∈ addIns j kd (s.i, n, v) pt.pn from hq')
    split
    · rename_i e
      have := hsame q2 h2 e
      subst this
      exact ⟨hst.fresh _ (hw.mine q2 h2).1, fun x hx _ => rfl⟩
    · exact ⟨hst.fresh _ (hw.mine q2 h2).1, fun x hx e => absurd e (hst.fresh _ ((hw.keys q2 h2).2.2 x hx).2)⟩

theorem wf_fix {o : Oper} {gone : List Nat} {v : Value} {pt1 : Pt} (hst : Step ops tbl pt s) (hw : WF P N ops tbl e0 base pt) (h : dFix P N C pt s.i gone (restr s.lk pt.e) o.op = some (v, pt1))
    (hnx : ∀ b, pt1.C.next ≤ b → pt1.C.heap.get b = none) : WF P N ops tbl e0 base (pt1.note ops s v) := by
  obtain ⟨st', hgi, hx, hle, hrd, rfl⟩ := dFix_out h
  have hsub : ∀ q ∈ pt.pn.filter (fun q => !(has gone q.i)), q ∈ pt.pn ∧ q.i ∉ gone := by
    intro q hq
    obtain ⟨h1, h2⟩ := List.mem_filter.1 hq
    exact ⟨h1, fun e => by rw [has_iff.2 e] at h2; cases h2⟩
  have hin : ∀ q ∈ pt.pn, q.i ∈ gone ∨ q ∈ pt.pn.filter (fun q => !(has gone q.i)) := by
    intro q hq
    cases hh : has gone q.i with
    | true => exact .inl (has_iff.1 hh)
    | false => exact .inr (List.mem_filter.2 ⟨hq, by rw [hh]; rfl⟩)
  have hsome : ∀ q ∈ pt.pn.filter (fun q => !(has gone q.i)), (pt.C.heap.get q.n).isSome = true := fun q hq => by
    obtain ⟨bk, h1, _⟩ := (hw.names q (hsub q hq).1).2
    rw [h1]; rfl
  have hback : ∀ q ∈ pt.pn.filter (fun q => !(has gone q.i)), (backN pt.C.heap (pt.pn.filter fun q => !(has gone q.i)) st'.heap).get q.n = pt.C.heap.get q.n := fun q hq => by
    rw [backN_get hsome, if_pos (List.mem_map_of_mem hq)]
  refine WF.note (pt' := { pt with C := ⟨backN pt.C.heap (pt.pn.filter fun q => !(has gone q.i)) st'.heap, st'.next⟩, pn := pt.pn.filter fun q => !(has gone q.i), pr := pt.pr.filter fun q => !(has gone q.i), must := s.i :: (gone ++ pt.must) }) hst rfl rfl hw ⟨hnx, Nat.le_trans hw.bs hle⟩ ?_ (hw.nod.sublist List.filter_sublist) ?_ ?_ ?_ ?_ (.inl List.mem_cons_self)
  · intro q hq
    obtain ⟨h1, bk, h2, h3, h4⟩ := hw.names q (hsub q hq).1
    exact ⟨Nat.lt_of_lt_of_le h1 hle, bk, by rw [← h2]; exact hback q hq, h3, h4⟩
  · intro q hq
    exact ⟨(hw.keys q (hsub q hq).1).1, (hw.keys q (hsub q hq).1).2.1, fun x hx => ⟨((hw.keys q (hsub q hq).1).2.2 x hx).1, .inl ((hw.keys q (hsub q hq).1).2.2 x hx).2⟩⟩
  · intro p hp
    refine ⟨killN (pt.pn.filter fun q => !(has gone q.i)) st'.heap, fun b k hb hk => ?_, fun b hb => ?_, fun nx => by rw [xRd_nx (b := 0)]; exact hrd p hp⟩
    rw [killN_get] at hb
    split at hb
    · cases hb; exact absurd rfl hk
    · rename_i hn
      exact ⟨by show (backN _ _ _).get b = _; rw [backN_get hsome, if_neg hn]; exact hb, hn⟩
    · have hnm : b ∉ (pt.pn.filter fun q => !(has gone q.i)).map (·.n) := by
        intro hm
        obtain ⟨q, hq, e⟩ := List.mem_map.1 hm
        have := (hw.names q (hsub q hq).1).1
        have hb' : st'.next ≤ b := hb
        omega
      have := hnx b hb
      rw [killN_get, if_neg hnm]
      rw [show (backN pt.C.heap (pt.pn.filter fun q => !(has gone q.i)) st'.heap).get b = st'.heap.get b by rw [backN_get hsome, if_neg hnm]] at this
      exact this
  · intro q hq
    exact ⟨.inl (hw.mine q (hsub q hq).1).1, (hw.mine q (hsub q hq).1).2⟩
  · refine AllOK.mono (pt := pt) (rs0 := pt.rs) ?_ (fun r hr o e hl => ?_) (fun _ h => h) hw.lights
    · exact fun i hi => List.mem_cons_of_mem _ (List.mem_append_right _ hi)
    refine Light.mono hl (fun q hq => ?_) (fun q hq hne => ?_) (fun p hp => ?_) (si := s.i) (fun e => hst.fresh _ (List.mem_map_of_mem (f := fun r : Rc => r.s.i) hr) e) (fun q' hq' => ⟨.inr ⟨q', (hsub q' hq').1, rfl⟩, fun x hx => .inr ⟨q', (hsub q' hq').1, rfl, hx⟩⟩)
    · rcases hin q hq with h1 | h1
      · exact .inl (List.mem_cons_of_mem _ (List.mem_append_left _ h1))
      · exact .inr ⟨q, h1, rfl, rfl, fun h => .inl ⟨h, hback q h1⟩, fun h => ⟨h, rfl⟩⟩
    · rcases hin q hq with h1 | h1
      · exact absurd (hgi q hq h1) hne
      · exact ⟨q, h1, rfl, rfl, fun x hx => hx⟩
    · cases hh : has gone p.i with
      | true => exact .inl (List.mem_cons_of_mem _ (List.mem_append_left _ (has_iff.1 hh)))
      | false => exact .inr (List.mem_filter.2 ⟨hp, by rw [hh]; rfl⟩)

theorem wf_light (hst : Step ops tbl pt s) (hw : WF P N ops tbl e0 base pt) (hk : notFix s) (h : dstep P N C ops pt s = some pt') : WF P N ops tbl e0 base pt' := by
  unfold dstep at h
  split at h <;> try (cases h; done)
  rename_i o ho
  split at h <;> try (cases h; done)
  · rename_i hg
    split at h
    · rename_i g e; exact absurd e (hk g)
    · cases h
      exact WF.same (pt' := pt) hst hw rfl rfl (fun p hp => hp) (fun i hi => hi) rfl rfl hw.reads (.inr ⟨o, ho, .skip hg rfl (show NoRole pt.pn s.i from norole hst hw)⟩)
  · rename_i hg
    split at h
    · split at h <;> try (cases h; done)
      rename_i v hv
      cases h
      exact WF.same (pt' := pt) hst hw rfl rfl (fun p hp => hp) (fun i hi => hi) rfl rfl hw.reads (.inr ⟨o, ho, .pure hg hv (show NoRole pt.pn s.i from norole hst hw)⟩)
    · split at h <;> try (cases h; done)
      rename_i v bk hv
      cases h
      exact wf_new hst hw ho hg hv
    · split at h <;> try (cases h; done)
      rename_i v hv
      cases h
      exact wf_read hst hw ho hg hv
    · rename_i j e
      split at h <;> try (cases h; done)
      rename_i pt1 hv
      cases h
      exact wf_ins hst hw e ho hg hv
    · rename_i g e
      exact absurd e (hk g)

end

end Go.X

/-
  THE EXECUTOR, part 21: regions in whatever order are sound. Own work; generic in the program.
-/
set_option linter.unusedVariables false
set_option maxRecDepth 20000
namespace Go.X
open Go Go.V Go.RowKit

section
variable {P : Program} {N : Nat} {C : Caller} {ops : Array Oper} {tbl : List (List Nat)} {e0 : Ev} {base : Nat} {pt pt' : Pt} {s : DS} {L : LF} {m m' : Ren} {ρ : Env} {w : World}

theorem pnAt_addIns {j : Nat} {kd : IntKind} {x : Nat × Int × Value} {b : Nat} : ∀ {pn : List PN}, pnAt (addIns j kd x pn) b = (pnAt pn b).map fun q => if q.i = j then { q with kd := kd, ins := x :: q.ins } else q
  | [] => rfl
  | p :: r => by
    have ih := pnAt_addIns (j := j) (kd := kd) (x := x) (b := b) (pn := r)
    have e : addIns j kd x (p :: r) = (if p.i = j then { p with kd := kd, ins := x :: p.ins } else p) :: addIns j kd x r := by
      show (bif Nat.beq p.i j then _ else _) :: _ = _
      cases hb : Nat.beq p.i j with
      | true => rw [if_pos (Nat.eq_of_beq_eq_true hb)]; rfl
      | false => rw [if_neg (fun e => by rw [e, Nat.beq_refl] at hb; cases hb)]; rfl
    have en : (if p.i = j then { p with kd := kd, ins := x :: p.ins } else p : PN).n = p.n := by split <;> rfl
    rw [e]
    unfold pnAt
    rw [en]
    cases Nat.beq p.n b
    · simpa using ih
    · rfl

theorem hL_new {bk : Blk} (hw : WF P N ops tbl e0 base pt) (hl : L s.i = false) (v : Value) : hL (Pt.note { pt with C := pt.C.new bk, pn := ⟨s.i, pt.C.next, .i64, []⟩ :: pt.pn } ops s v) L = hL pt L := by
  have hget : ∀ b, (pt.C.new bk).heap.get b = if b = pt.C.next then some bk else pt.C.heap.get b := fun b => get_set _ _ _ _
  funext b
  show (match pnAt (⟨s.i, pt.C.next, .i64, []⟩ :: pt.pn) b with | some q => cont L q (pt.C.new bk).heap | none => (pt.C.new bk).heap.get b) = _
  by_cases e : b = pt.C.next
  · subst e
    have e1 : pnAt (⟨s.i, pt.C.next, .i64, []⟩ :: pt.pn) pt.C.next = some ⟨s.i, pt.C.next, .i64, []⟩ := by unfold pnAt; rw [Nat.beq_refl]; rfl
    rw [e1]
    unfold hL
    cases hp : pnAt pt.pn pt.C.next with
    | some q =>
      obtain ⟨h1, h2⟩ := pnAt_some hp
      have := (hw.names q h1).1
      omega
    | none =>
      show cont L _ _ = pt.C.heap.get pt.C.next
      rw [hw.nx _ (Nat.le_refl _)]
      unfold cont
      rw [hl]
      rfl
  · have e1 : pnAt (⟨s.i, pt.C.next, .i64, []⟩ :: pt.pn) b = pnAt pt.pn b := by
      show (bif Nat.beq pt.C.next b then _ else _) = _
      cases hb : Nat.beq pt.C.next b with
      | true => exact absurd (Nat.eq_of_beq_eq_true hb).symm e
      | false => rfl
    rw [e1]
    unfold hL
    cases hp : pnAt pt.pn b with
    | some q =>
      obtain ⟨h1, h2⟩ := pnAt_some hp
      show cont L q _ = cont L q _
      unfold cont
      rw [hget, if_neg (by rw [h2]; exact e)]
    | none =>
      show (pt.C.new bk).heap.get b = pt.C.heap.get b
      rw [hget, if_neg e]

theorem hL_ins {i j : Nat} {kd : IntKind} {n : Int} {v : Value} {q : PN} (hw : WF P N ops tbl e0 base pt) (hl : L i = false) (hq : q ∈ pt.pn) (hqi : q.i = j) (hc : pt.C.heap.get q.n = some (.mapI kd (q.ins.map (·.2)) q.ins.length none)) (hkd : q.ins ≠ [] → q.kd = kd) :
    hL { pt with C := pt.C.put q.n (.mapI kd ((n, v) :: q.ins.map (·.2)) (q.ins.length + 1) none), pn := addIns j kd (i, n, v) pt.pn } L = hL pt L := by
  have hget : ∀ b, (pt.C.put q.n (.mapI kd ((n, v) :: q.ins.map (·.2)) (q.ins.length + 1) none)).heap.get b = if b = q.n then some (.mapI kd ((n, v) :: q.ins.map (·.2)) (q.ins.length + 1) none) else pt.C.heap.get b := fun b => get_set _ _ _ _
  funext b
  show (match pnAt (addIns j kd (i, n, v) pt.pn) b with | some q' => cont L q' (pt.C.put q.n (.mapI kd ((n, v) :: q.ins.map (fun x : Nat × Int × Value => x.2)) (q.ins.length + 1) none)).heap | none => (pt.C.put q.n (.mapI kd ((n, v) :: q.ins.map (fun x : Nat × Int × Value => x.2)) (q.ins.length + 1) none)).heap.get b) = _
  rw [pnAt_addIns]
  unfold hL
  cases hp : pnAt pt.pn b with
  | none =>
    show (pt.C.put q.n _).heap.get b = pt.C.heap.get b
    rw [hget, if_neg (pnAt_none hp q hq).symm]
  | some q2 =>
    obtain ⟨h1, h2⟩ := pnAt_some hp
    show cont L (if q2.i = j then _ else q2) _ = cont L q2 _
    by_cases e : q2.i = j
    · have := apart_eq hw.nod h1 hq (e.trans hqi.symm)
      subst this
      rw [if_pos e]
      unfold cont
      cases hL : L q2.i with
      | false => rfl
      | true =>
        simp only [cond_true]
        have e1 : insL L { q2 with kd := kd, ins := (i, n, v) :: q2.ins } = insL L q2 := by
          show ((((i, n, v) :: q2.ins).filter fun x => L x.1).map (·.2)) = _
          rw [List.filter_cons, if_neg (by rw [hl]; simp)]
          rfl
        rw [e1]
        cases hi : q2.ins with
        | nil =>
          rw [hc, hi]
          show some (Blk.mapI kd (insL L q2) (insL L q2).length none) = some (Blk.mapI kd [] 0 none)
          unfold insL
          rw [hi]
          rfl
        | cons y l => rw [hkd (by rw [hi]; exact List.cons_ne_nil _ _)]
    · rw [if_neg e]
      unfold cont
      rw [hget, if_neg (fun e2 => e ?_)]
      have h3 := pnAt_mem hw.nod h1
      have h4 := pnAt_mem hw.nod hq
      rw [e2, h4] at h3
      cases h3
      exact hqi

theorem EL_new {r : Rc} {rs : List Rc} (h : L r.s.i = false) : EL ops L e0 (r :: rs) = EL ops L e0 rs := by rw [EL_cons, h, cond_false]

theorem G_light (hw : WF P N ops tbl e0 base pt) (hk : notFix s) (h : dstep P N C ops pt s = some pt') (hl : L s.i = false) (hG : G ops m base e0 pt L ρ w m') : G ops m base e0 pt' L ρ w m' := by
  have stay : ∀ v, G ops m base e0 (pt.note ops s v) L ρ w m' := fun v => ⟨hG.le, hG.sim, hG.fresh, hG.pend, hG.res, by show ER m' (EL ops L e0 (⟨s, v⟩ :: pt.rs)) ρ; rw [EL_new (show L (Rc.mk s v).s.i = false from hl)]; exact hG.er, hG.must⟩
  unfold dstep at h
  split at h <;> try (cases h; done)
  rename_i o ho
  split at h <;> try (cases h; done)
  · split at h
    · rename_i g e; exact absurd e (hk g)
    · cases h; exact stay undef
  · split at h
    · split at h <;> try (cases h; done)
      rename_i v hv
      cases h
      exact stay v
    · split at h <;> try (cases h; done)
      rename_i v bk hv
      cases h
      refine ⟨hG.le, by rw [hL_new hw hl]; exact hG.sim, fun b hb => hG.fresh b (Nat.le_of_succ_le hb), fun q hq hqL => ?_, hG.res, ?_, hG.must⟩
      · rcases List.mem_cons.1 (show q ∈ PN.mk s.i pt.C.next .i64 [] :: pt.pn from hq) with rfl | hq
        · exact hG.fresh _ (Nat.le_refl _)
        · exact hG.pend q hq hqL
      · show ER m' (EL ops L e0 (⟨s, v⟩ :: pt.rs)) ρ
        rw [EL_new (show L (Rc.mk s v).s.i = false from hl)]
        exact hG.er
    · split at h <;> try (cases h; done)
      rename_i v hv
      cases h
      exact ⟨hG.le, hG.sim, hG.fresh, hG.pend, hG.res, by show ER m' (EL ops L e0 (⟨s, v⟩ :: pt.rs)) ρ; rw [EL_new (show L (Rc.mk s v).s.i = false from hl)]; exact hG.er, hG.must⟩
    · rename_i j e
      split at h <;> try (cases h; done)
      rename_i pt1 hv
      cases h
      obtain ⟨t, x, k, u, kd, n, v, q, ha, hx, hkk, hu, hq, hqi, hkd, hc, hkd2, hfresh, rfl⟩ := dIns_out hw hv
      refine ⟨hG.le, ?_, hG.fresh, fun q' hq' hqL => ?_, hG.res, ?_, hG.must⟩
      · have := hL_ins (n := n) (v := v) hw hl hq hqi hc hkd2
        show SimH m' (hL { pt with C := pt.C.put q.n (.mapI kd ((n, v) :: q.ins.map (·.2)) (q.ins.length + 1) none), pn := addIns j kd (s.i, n, v) pt.pn } L) w
        rw [this]
        exact hG.sim
      · obtain ⟨q2, h2, rfl⟩ := addIns_mem (show q' ∈ addIns j kd (s.i, n, v) pt.pn from hq')
        split at hqL
        · rename_i e2; rw [if_pos e2]; exact hG.pend q2 h2 hqL
        · rename_i e2; rw [if_neg e2]; exact hG.pend q2 h2 hqL
      · show ER m' (EL ops L e0 (⟨s, undef⟩ :: pt.rs)) ρ
        rw [EL_new (show L (Rc.mk s undef).s.i = false from hl)]
        exact hG.er
    · rename_i g e
      exact absurd e (hk g)

theorem insL_add {i : Nat} {q : PN} (h : ∀ x ∈ q.ins, x.1 ≠ i) : insL (L.add i) q = insL L q := by
  unfold insL
  congr 1
  apply List.filter_congr
  intro x hx
  rw [LF.add_ne L (h x hx)]

theorem hL_same {i : Nat} (hn : NoRole pt.pn i) : hL pt (L.add i) = hL pt L := by
  funext b
  unfold hL
  cases hp : pnAt pt.pn b with
  | none => rfl
  | some q =>
    obtain ⟨h1, h2⟩ := hn q (pnAt_some hp).1
    show cont _ q _ = cont _ q _
    unfold cont
    rw [LF.add_ne L h1, insL_add h2]

theorem SimH.new {h : Nat → Option Blk} (hs : SimH m h w) {n : Nat} {o : Obj} {k : Blk} (hn : m n = none) (hr : ObjR (m.add n ⟨w.heap.size, 0, 0⟩) ⟨w.heap.size, 0, 0⟩ o k) {h' : Nat → Option Blk} (h1 : h' n = some k) (h2 : ∀ b, b ≠ n → h' b = h b) :
    SimH (m.add n ⟨w.heap.size, 0, 0⟩) h' (w.alloc o) := by
  have hle : m.le (m.add n ⟨w.heap.size, 0, 0⟩) := Ren.add_le hn
  have hsz : (w.alloc o).heap.size = w.heap.size + 1 := by show (w.heap.push o).size = _; simp
  have hold : ∀ i, i < w.heap.size → (w.alloc o).heap[i]? = w.heap[i]? := fun i hi => blk_lt w o i hi
  have hnew : (w.alloc o).heap[w.heap.size]? = some o := World.alloc_heap_new _ _
  refine ⟨fun b kb hb hd => ?_, fun b b' k1 k2 a a' hb hd hb' hd' ha ha' e => ?_, fun b a ha => ?_, hs.fr.alloc o, fun b kb a hb hd ha => ?_, fun c r hc => by rw [hsz]; exact Nat.lt_succ_of_lt (hs.lpl c r hc)⟩
  · by_cases e : b = n
    · subst e
      rw [h1] at hb
      cases hb
      exact ⟨_, o, Ren.add_same _ _ _, hnew, hr⟩
    · rw [h2 b e] at hb
      obtain ⟨a, o', g1, g2, g3⟩ := hs.obj b kb hb hd
      exact ⟨a, o', by rw [Ren.add_ne m _ e]; exact g1, by rw [hold _ (hs.lt b a g1)]; exact g2, g3.up hle⟩
  · by_cases e1 : b = n
    · by_cases e2 : b' = n
      · rw [e1, e2]
      · exfalso
        rw [e1, Ren.add_same] at ha
        rw [Ren.add_ne m _ e2] at ha'
        have := hs.lt b' a' ha'
        cases ha
        simp only at e
        omega
    · by_cases e2 : b' = n
      · exfalso
        rw [e2, Ren.add_same] at ha'
        rw [Ren.add_ne m _ e1] at ha
        have := hs.lt b a ha
        cases ha'
        simp only at e
        omega
      · rw [h2 b e1] at hb
        rw [h2 b' e2] at hb'
        rw [Ren.add_ne m _ e1] at ha
        rw [Ren.add_ne m _ e2] at ha'
        exact hs.inj b b' k1 k2 a a' hb hd hb' hd' ha ha' e
  · rw [hsz]
    by_cases e : b = n
    · rw [e, Ren.add_same] at ha
      cases ha
      exact Nat.lt_succ_self _
    · rw [Ren.add_ne m _ e] at ha
      have := hs.lt b a ha
      omega
  · show m.F a.blk ∨ m.w0.heap.size ≤ a.blk
    by_cases e : b = n
    · rw [e, Ren.add_same] at ha
      cases ha
      exact .inr hs.fr.size
    · rw [Ren.add_ne m _ e] at ha
      rw [h2 b e] at hb
      exact hs.own b kb a hb hd ha

theorem SimH.upd {h : Nat → Option Blk} (hs : SimH m h w) {n : Nat} {k0 k : Blk} {a : At} {o : Obj} {w' : World} (h0 : h n = some k0) (hd0 : k0 ≠ .dead) (ha : m n = some a) (hf : Fr (fun c => c = a.blk) w w') (ho : w'.heap[a.blk]? = some o)
    (hr : ObjR m a o k) {h' : Nat → Option Blk} (h1 : h' n = some k) (h2 : ∀ b, b ≠ n → h' b = h b) : SimH m h' w' := by
  have old : ∀ b kb, h' b = some kb → kb ≠ .dead → ∃ k1, h b = some k1 ∧ k1 ≠ .dead := fun b kb hb hd => by
    by_cases e : b = n
    · rw [e]; exact ⟨k0, h0, hd0⟩
    · rw [h2 b e] at hb; exact ⟨kb, hb, hd⟩
  refine ⟨fun b kb hb hd => ?_, fun b b' k1 k2 a1 a2 hb hd hb' hd' g1 g2 e => ?_, fun b a1 g => Nat.lt_of_lt_of_le (hs.lt b a1 g) hf.size, hs.fr.trans hf fun x hx e => ?_, fun b kb a1 hb hd g => ?_, fun c r hc => Nat.lt_of_lt_of_le (hs.lpl c r hc) hf.size⟩
  · by_cases e : b = n
    · subst e
      rw [h1] at hb
      cases hb
      exact ⟨a, o, ha, ho, hr⟩
    · rw [h2 b e] at hb
      obtain ⟨a2, o2, g1, g2, g3⟩ := hs.obj b kb hb hd
      refine ⟨a2, o2, g1, hf.get g2 fun e2 => e ?_, g3⟩
      exact hs.inj b n kb k0 a2 a hb hd h0 hd0 g1 ha e2
  · obtain ⟨q1, f1, d1⟩ := old b k1 hb hd
    obtain ⟨q2, f2, d2⟩ := old b' k2 hb' hd'
    exact hs.inj b b' q1 q2 a1 a2 f1 d1 f2 d2 g1 g2 e
  · subst e
    exact (hs.own n k0 a h0 hd0 ha).resolve_right (Nat.not_le.2 hx)
  · obtain ⟨q1, f1, d1⟩ := old b kb hb hd
    exact hs.own b q1 a1 f1 d1 g

theorem AllOK.get {r : Rc} : ∀ {rs : List Rc}, AllOK P N ops tbl e0 pt rs → r ∈ rs → ∃ nw od, rs = nw ++ r :: od ∧ (r.s.i ∈ pt.must ∨ ∃ o, ops[r.s.i]? = some o ∧ Light P N ops tbl pt r o (restr r.s.lk (EL ops tt e0 od)))
  | [], _, hr => by cases hr
  | q :: od, ⟨h1, h2⟩, hr => by
    rcases List.mem_cons.1 hr with e | hr
    · subst e
      exact ⟨[], od, rfl, h1⟩
    · obtain ⟨nw, od', e, h3⟩ := AllOK.get h2 hr
      exact ⟨q :: nw, od', by rw [e]; rfl, h3⟩

theorem filter_perm {i : Nat} {n : Int} {v : Value} : ∀ {l : List (Nat × Int × Value)}, (l.map (·.1)).Nodup → (i, n, v) ∈ l → L i = false → ((l.filter fun x => (L.add i) x.1).map (·.2)).Perm (((l.filter fun x => L x.1).map (·.2)) ++ [(n, v)])
  | [], _, hm, _ => by cases hm
  | y :: l, hn, hm, hl => by
    rw [List.map_cons, List.nodup_cons] at hn
    rcases List.mem_cons.1 hm with rfl | hm
    · have e : (l.filter fun x => (L.add i) x.1) = l.filter fun x => L x.1 := by
        apply List.filter_congr
        intro x hx
        rw [LF.add_ne L]
        intro e
        exact hn.1 (by rw [show ((i, n, v) : Nat × Int × Value).1 = x.1 from e.symm]; exact List.mem_map_of_mem (f := (·.1)) hx)
      rw [List.filter_cons, if_pos (LF.add_same L i), List.filter_cons, if_neg (by simp [hl]), e, List.map_cons]
      exact (List.perm_append_comm (l₁ := [(n, v)])).trans (List.Perm.refl _)
    · have hne : y.1 ≠ i := fun e => hn.1 (by rw [e]; exact List.mem_map_of_mem (f := (·.1)) hm)
      rw [List.filter_cons, List.filter_cons, LF.add_ne L hne]
      have ih := filter_perm hn.2 hm hl
      cases L y.1
      · simpa using ih
      · simpa using ih.cons y.2

theorem setI_absent {n : Int} {v : Value} : ∀ {ks : List (Int × Value)}, n ∉ ks.map (·.1) → setI n v ks = ks ++ [(n, v)]
  | [], _ => rfl
  | (k, u) :: ks, h => by
    rw [List.map_cons, List.mem_cons, not_or] at h
    unfold setI
    rw [if_neg h.1, setI_absent h.2]
    rfl

theorem KRs.perm {ks ks2 : List (Int × Value)} (h : ks.Perm ks2) : ∀ {vs : List (Int × Value)}, KRs m ks vs → ∃ vs2, vs.Perm vs2 ∧ KRs m ks2 vs2 := by
  induction h with
  | nil => intro vs h; exact ⟨vs, List.Perm.refl _, h⟩
  | cons p h ih =>
    intro vs hv
    cases hv with
    | cons hx hs =>
      obtain ⟨vs2, h1, h2⟩ := ih hs
      exact ⟨_, h1.cons _, .cons hx h2⟩
  | swap p q l =>
    intro vs hv
    cases hv with
    | cons hx hs =>
      cases hs with
      | cons hy ht => exact ⟨_, List.Perm.swap _ _ _, .cons hy (.cons hx ht)⟩
  | trans h1 h2 ih1 ih2 =>
    intro vs hv
    obtain ⟨vs2, g1, g2⟩ := ih1 hv
    obtain ⟨vs3, g3, g4⟩ := ih2 g2
    exact ⟨vs3, g1.trans g3, g4⟩

theorem ObjR.perm {a : At} {o : Obj} {kd : IntKind} {ks ks2 : List (Int × Value)} (h : ks.Perm ks2) {cl : Nat} (hr : ObjR m a o (.mapI kd ks cl none)) : ObjR m a o (.mapI kd ks2 cl none) := by
  unfold ObjR at hr ⊢
  split at hr
  · rename_i e; cases e
  · rename_i es c kd' ks' cl' last' e
    cases e
    obtain ⟨⟨ks', kp, h1, h2, h3⟩, h4⟩ := hr
    obtain ⟨vs2, g1, g2⟩ := h3.perm h
    exact ⟨⟨ks', vs2, h1, g1.symm.trans h2, g2⟩, h4⟩
  · rename_i e; cases e
  · rename_i e; cases e
  · rename_i e; cases e
  · rename_i e; cases e
  · rename_i e; cases e
  · rename_i e; cases e
  · exact hr.elim

end

end Go.X

/-
  THE EXECUTOR, part 22: regions in whatever order are sound, all in all. Own work; generic in the program.
-/
set_option linter.unusedVariables false
set_option maxRecDepth 20000
namespace Go.X
open Go Go.V Go.RowKit

section
variable {P : Program} {N : Nat} {C : Caller} {ops : Array Oper} {tbl : List (List Nat)} {e0 : Ev} {base : Nat} {pt pt' : Pt} {s : DS} {L : LF} {m m' : Ren} {ρ : Env} {w : World}

theorem stepI_of {i : Nat} {o : Oper} {I : Env → World → Prop} (ho : ops[i]? = some o) (h : ∃ kn, Kn ρ kn ∧ guardV (ops.toList.map (·.dst)) o.guard kn ρ (fun _ => opV P o.op ρ w fun v w' => I (put ρ o.dst v) w') (fun _ => I (put ρ o.dst undef) w)) : stepI P ops i I ρ w := by
  unfold stepI
  have : ops.toList[i]? = some o := by simpa using ho
  rw [this]
  exact h

theorem dst_of {i : Nat} {o : Oper} (ho : ops[i]? = some o) : dstOf ops i = o.dst := by unfold dstOf; rw [ho]

theorem exec_light (ht : tblOK ops tbl = true) (hw : WF P N ops tbl e0 base pt) (hcl : Closed ops L) (hG : G ops m base e0 pt L ρ w m') (hg : Glob N m') {i : Nat} (hi : i ∈ pt.rs.map (·.s.i)) (hLi : L i = false) (hd : ∀ d ∈ dirs ops i, L d = true)
    {I : Env → World → Prop} (hI : ∀ ρ' w' m2, G ops m base e0 pt (L.add i) ρ' w' m2 → I ρ' w') : stepI P ops i I ρ w := by
  obtain ⟨r, hr, rfl⟩ := List.mem_map.1 hi
  have hL' : L r.s.i = false := hLi
  obtain ⟨nw, od, hrs, hlt⟩ := AllOK.get hw.lights hr
  rcases hlt with hmust | ⟨o, ho, hlt⟩
  · rw [hG.must _ hmust] at hL'; cases hL'
  have hrel := hw.rel
  have hsz := hw.sz
  have her := hG.er
  rw [hrs] at hrel hsz her
  have hsz' : r.s.i < ops.size := hw.sz r hr
  have he : ER m' (restr r.s.lk (EL ops tt e0 od)) ρ := look_er ht hcl hrel hsz hL' hd her
  have hput : ∀ v', VR m' r.v v' → ER m' (EL ops (L.add r.s.i) e0 pt.rs) (V.put ρ o.dst v') := fun v' hv => by
    rw [hrs, ← dst_of ho]
    exact put_er ht hcl hrel hsz hL' her hv
  have hmust : ∀ i ∈ pt.must, L.add r.s.i i = true := fun i hi => by
    by_cases e : i = r.s.i
    · rw [e]; exact LF.add_same L _
    · rw [LF.add_ne L e]; exact hG.must i hi
  have hpend : ∀ q ∈ pt.pn, L.add r.s.i q.i = false → L q.i = false ∧ q.i ≠ r.s.i := fun q hq h => by
    have hne : q.i ≠ r.s.i := fun e => by rw [e, LF.add_same] at h; cases h
    exact ⟨by rw [LF.add_ne L hne] at h; exact h, hne⟩
  have same : NoRole pt.pn r.s.i → ∀ v', VR m' r.v v' → I (V.put ρ o.dst v') w := fun hn v' hv =>
    hI _ _ m' ⟨hG.le, by rw [hL_same hn]; exact hG.sim, hG.fresh, fun q hq h => hG.pend q hq (hpend q hq h).1, hG.res, hput v' hv, hmust⟩
  refine stepI_of ho ?_
  cases hlt with
  | skip hgr hv hn => exact gRun_ok he hgr (fun e => by cases e) fun _ => same hn _ (by rw [hv]; exact .tup .nil)
  | pure hgr h hn =>
    refine gRun_ok he hgr (fun _ => ?_) (fun e => by cases e)
    exact xLt_ok he hg h fun v' hv => same hn v' hv
  | new hgr q hq hqi bk h hc hn =>
    refine gRun_ok he hgr (fun _ => ?_) (fun e => by cases e)
    have hqn : m' q.n = none := hG.pend q hq (by rw [hqi]; exact hL')
    refine xNew_ok hqn he hg h fun ob v' hv hob => ?_
    have hle : m'.le (m'.add q.n ⟨w.heap.size, 0, 0⟩) := Ren.add_le hqn
    have hins : insL (L.add r.s.i) q = [] := by
      unfold insL
      have : (q.ins.filter fun x => L.add r.s.i x.1) = [] := by
        rw [List.filter_eq_nil_iff]
        intro x hx hlx
        rw [LF.add_ne L (hn q hq x hx)] at hlx
        obtain ⟨h1, h2⟩ := (hw.keys q hq).2.2 x hx
        obtain ⟨rx, hrx, e⟩ := List.mem_map.1 h2
        have := tbl_in ht hcl x.1 (by rw [← e]; exact hw.sz rx hrx) (hcl _ hlx) _ h1
        rw [hqi, hL'] at this
        cases this
      rw [this]
      rfl
    have hat : hL pt (L.add r.s.i) q.n = some bk := by
      unfold hL
      rw [pnAt_mem hw.nod hq]
      show cont _ q _ = _
      unfold cont
      rw [hqi, LF.add_same, cond_true]
      rcases hc with ⟨h1, h2⟩ | ⟨h1, h2⟩
      · rw [h1]; exact h2
      · cases hi : q.ins with
        | nil => exact absurd hi h1
        | cons y l => rw [hins, h2]; rfl
    have hoth : ∀ b, b ≠ q.n → hL pt (L.add r.s.i) b = hL pt L b := by
      intro b hb
      unfold hL
      cases hp : pnAt pt.pn b with
      | none => rfl
      | some q2 =>
        obtain ⟨h1, h2⟩ := pnAt_some hp
        show cont _ q2 _ = cont _ q2 _
        unfold cont
        rw [LF.add_ne L (fun e => hb ?_), insL_add (hn q2 h1)]
        have := apart_eq hw.nod h1 hq (e.trans hqi.symm)
        rw [← h2, this]
    refine hI _ _ (m'.add q.n ⟨w.heap.size, 0, 0⟩) ⟨hG.le.trans hle, hG.sim.new hqn hob hat hoth, fun b hb => ?_, fun q2 hq2 h2 => ?_, fun b hb => ?_, ?_, hmust⟩
    · have := (hw.names q hq).1
      rw [Ren.add_ne m' _ (by omega)]
      exact hG.fresh b hb
    · obtain ⟨h3, h4⟩ := hpend q2 hq2 h2
      rw [Ren.add_ne m' _ (fun e => h4 ?_)]
      · exact hG.pend q2 hq2 h3
      · have g3 := pnAt_mem hw.nod hq2
        have g4 := pnAt_mem hw.nod hq
        rw [e, g4] at g3
        cases g3
        exact hqi
    · obtain ⟨h3, h4⟩ := hG.res b hb
      refine ⟨?_, h4⟩
      by_cases e : b = q.n
      · exfalso
        have := (hw.mine q hq).2
        omega
      · rw [Ren.add_ne m' _ e]; exact h3
    · rw [hrs, ← dst_of ho]
      exact put_er ht hcl hrel hsz hL' (her.up hle) hv
  | read hgr p hp h1 h2 h3 h4 hn =>
    refine gRun_ok he hgr (fun _ => ?_) (fun e => by cases e)
    obtain ⟨Q, hQ1, hQ2, hQ3⟩ := hw.reads p hp
    have hsim : Sim m' ⟨Q, pt.C.next⟩ w := hG.sim.view (fun b k hb hk => by
        obtain ⟨g1, g2⟩ := hQ1 b k hb hk
        unfold hL
        cases hpa : pnAt pt.pn b with
        | none => exact g1
        | some q => obtain ⟨g3, g4⟩ := pnAt_some hpa; exact absurd (by rw [← g4]; exact List.mem_map_of_mem g3) g2)
      (fun b hb => ⟨hG.fresh b hb, hQ2 b hb⟩) (fun b hb => by
        rw [hG.le.R] at hb
        obtain ⟨g1, g2⟩ := hG.res b hb
        exact ⟨g1, Nat.lt_of_lt_of_le g2 hw.bs⟩)
    have hrd := hQ3 pt.C.next
    rw [h1, h2, h3] at hrd
    exact xRd_ok hsim he hg hrd fun v' hv => same hn v' hv
  | ins hgr q hq t x k u n v ha hx hk hu htk hin hv hn =>
    refine gRun_ok he hgr (fun _ => ?_) (fun e => by cases e)
    obtain ⟨hky1, hky2, hky3⟩ := hw.keys q hq
    have hLq : L q.i = true := tbl_in ht hcl r.s.i hsz' hd _ (hky3 _ hin).1
    have hne : q.ins ≠ [] := by intro e; rw [e] at hin; cases hin
    have hat0 : ∀ L' : LF, L' q.i = true → hL pt L' q.n = some (.mapI q.kd (insL L' q) (insL L' q).length none) := by
      intro L' hq1
      unfold hL
      rw [pnAt_mem hw.nod hq]
      show cont _ q _ = _
      unfold cont
      rw [hq1, cond_true]
      cases hi : q.ins with
      | nil => exact absurd hi hne
      | cons y l => rfl
    have hat := hat0 L hLq
    obtain ⟨a, ob, g1, g2, g3⟩ := hG.sim.obj _ _ hat mapI_ne
    have habs : n ∉ (insL L q).map (·.1) := by
      intro hm
      unfold insL at hm
      rw [List.map_map] at hm
      obtain ⟨y, hy, e⟩ := List.mem_map.1 hm
      obtain ⟨hy1, hy2⟩ := List.mem_filter.1 hy
      have hyi : y.1 ≠ r.s.i := fun e2 => by
        have hy2 : L y.1 = true := hy2
        rw [e2, hL'] at hy2; cases hy2
      have e' : y.2.1 = n := e
      have key : ∀ {l : List (Nat × Int × Value)}, (l.map (·.2.1)).Nodup → y ∈ l → (r.s.i, n, v) ∈ l → y.2.1 = n → y.1 = r.s.i := by
        intro l
        induction l with
        | nil => intro _ h; cases h
        | cons z l ih =>
          intro hnd hy hi e
          rw [List.map_cons, List.nodup_cons] at hnd
          rcases List.mem_cons.1 hy with hy | hy
          · rcases List.mem_cons.1 hi with hi | hi
            · rw [hy, ← hi]
            · exact absurd (by rw [← hy, e]; exact List.mem_map_of_mem (f := fun x : Nat × Int × Value => x.2.1) hi) hnd.1
          · rcases List.mem_cons.1 hi with hi | hi
            · exact absurd (by rw [← hi]; show n ∈ _; rw [← e]; exact List.mem_map_of_mem (f := fun x : Nat × Int × Value => x.2.1) hy) hnd.1
            · exact ih hnd.2 hy hi e
      exact hyi (key hky1 hy1 hin e')
    let tiny : St := ⟨Tr.leaf.set (.mapI q.kd (insL L q) (insL L q).length none) q.n, pt.C.next⟩
    let mt : Ren := ⟨m'.f, w, fun c => c = a.blk, fun _ => False, m'.lp⟩
    have himp : ∀ b a, m' b = some a → mt b = some a := fun _ _ h => h
    have himp' : ∀ b a, mt b = some a → m' b = some a := fun _ _ h => h
    have tget : ∀ b, tiny.heap.get b = if b = q.n then some (.mapI q.kd (insL L q) (insL L q).length none) else none := fun b => by
      show (Tr.leaf.set _ _).get b = _
      rw [get_set]
      rfl
    have hst : Sim mt tiny w := by
      refine ⟨fun b kb hb hdd => ?_, fun b b' k1 k2 a1 a2 hb _ hb' _ _ _ _ => ?_, fun b hb => ⟨hG.fresh b hb, ?_⟩, hG.sim.lt, Fr.refl _ _, fun b kb a1 hb hdd ha1 => ?_, fun b hb => hb.elim, hG.sim.lpl⟩
      · rw [tget] at hb
        split at hb
        · rename_i e
          cases hb
          subst e
          exact ⟨a, ob, g1, g2, g3.imp himp fun _ _ h => h⟩
        · cases hb
      · rw [tget] at hb hb'
        split at hb
        · rename_i e
          split at hb'
          · rename_i e'; rw [e, e']
          · cases hb'
        · cases hb
      · have := (hw.names q hq).1
        have hb' : pt.C.next ≤ b := hb
        rw [tget, if_neg (by omega)]
      · rw [tget] at hb
        split at hb
        · rename_i e
          subst e
          have ha1' : m' q.n = some a1 := ha1
          rw [g1] at ha1'
          cases ha1'
          exact .inl rfl
        · cases hb
    have hx' := (evX_ok he hg hx).imp himp
    have hk' := (evX_ok he hg hk).imp himp
    have hu' := (evX_ok he hg hu).imp himp
    have hupd : xUpd P tiny t (.map (some q.n)) (.int q.kd n) v = some (tiny.put q.n (.mapI q.kd (setI n v (insL L q)) ((insL L q).length + 1) none)) := by
      unfold mapKd at htk
      unfold xUpd
      split at htk
      · rename_i kt et htt
        simp only [htt]
        rw [if_pos htk]
        have : mapOf tiny q.n q.kd = some (insL L q) := by
          unfold mapOf
          rw [tget, if_pos rfl]
          simp
        rw [this]
        have hc2 : clkOf tiny q.n = (insL L q).length := by unfold clkOf; rw [tget, if_pos rfl]
        have hg2 : getI n (insL L q) = none := by
          cases hg : getI n (insL L q) with
          | none => rfl
          | some u =>
            exfalso
            apply habs
            have : ∀ {ks : List (Int × Value)}, getI n ks = some u → n ∈ ks.map (·.1) := by
              intro ks
              induction ks with
              | nil => intro h; cases h
              | cons p r ih =>
                obtain ⟨k0, v0⟩ := p
                intro h
                unfold getI at h
                split at h
                · rename_i e; rw [e]; exact List.mem_cons_self
                · exact List.mem_cons_of_mem _ (ih h)
            exact this hg
        rw [hc2]
        show some (tiny.put q.n (.mapI q.kd (setI n v (insL L q)) (if (getI n (insL L q)).isSome then (insL L q).length else (insL L q).length + 1) none)) = _
        rw [hg2]
        rfl
      · cases htk
    have fin : ∀ w', Sim mt (tiny.put q.n (.mapI q.kd (setI n v (insL L q)) ((insL L q).length + 1) none)) w' → I (V.put ρ o.dst undef) w' := by
      intro w' hs'
      have pget : (tiny.put q.n (.mapI q.kd (setI n v (insL L q)) ((insL L q).length + 1) none)).heap.get q.n = some (.mapI q.kd (setI n v (insL L q)) ((insL L q).length + 1) none) := by
        show ((Tr.leaf.set (Blk.mapI q.kd (insL L q) (insL L q).length none) q.n).set (Blk.mapI q.kd (setI n v (insL L q)) ((insL L q).length + 1) none) q.n).get q.n = _
        rw [get_set, if_pos rfl]
      obtain ⟨a1, o1, q1, q2, q3⟩ := hs'.obj _ _ pget mapI_ne
      have q1' : m' q.n = some a1 := q1
      rw [g1] at q1'
      cases q1'
      rw [setI_absent habs] at q3
      have q4 : ObjR m' a o1 (.mapI q.kd (insL (L.add r.s.i) q) (insL (L.add r.s.i) q).length none) := by
        have hp := filter_perm hky2 hin hL'
        have hlen : (insL (L.add r.s.i) q).length = (insL L q).length + 1 := by
          have := hp.length_eq
          rw [List.length_append] at this
          exact this
        rw [hlen]
        exact (q3.imp himp' fun _ _ h => h).perm hp.symm
      refine hI _ _ m' ⟨hG.le, hG.sim.upd hat mapI_ne g1 hs'.fr q2 q4 (hat0 _ (by rw [LF.add_ne L (hn q hq).1]; exact hLq)) (fun b hb => ?_), hG.fresh, fun q2 hq2 h => hG.pend q2 hq2 (hpend q2 hq2 h).1, hG.res, hput _ (by rw [hv]; exact .tup .nil), hmust⟩
      unfold hL
      cases hp : pnAt pt.pn b with
      | none => rfl
      | some q2 =>
        obtain ⟨f1, f2⟩ := pnAt_some hp
        show cont _ q2 _ = cont _ q2 _
        unfold cont
        rw [LF.add_ne L (hn q2 f1).1, insL_add (fun x hx e => hb (by rw [← f2]; exact (hn q2 f1).2 x hx e))]
    unfold insArgs at ha
    split at ha <;> try (cases ha; done)
    all_goals
      cases ha
      rename_i hop
      rw [hop]
      exact xUpd_ok hst hx' hk' hu' hupd fin

end

end Go.X
