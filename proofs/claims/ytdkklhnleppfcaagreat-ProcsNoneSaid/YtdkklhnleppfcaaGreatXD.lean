/-
  THE EXECUTOR, part 23: regions in whatever order: the chain's steps; the whole. Own work; generic in the program.
-/
import Derived.Test.YtdkklhnleppfcaaGreatXC
import Derived.Laws.Externs
set_option linter.unusedVariables false
set_option linter.unusedSimpArgs false

set_option linter.unusedVariables false
set_option maxRecDepth 20000
namespace Go.X
open Go Go.V Go.RowKit

section
variable {P : Program} {N : Nat} {C : Caller} {ops : Array Oper} {tbl : List (List Nat)} {e0 : Ev} {base : Nat} {pt pt' : Pt} {s : DS} {L : LF} {m m' : Ren} {ρ : Env} {w : World} {G0 : Ren → Prop}

theorem exec_fix (hC : COk P G0 C) (hGm : ∀ m m' : Ren, m.sub m' → G0 m → G0 m') (hN : ∀ m, G0 m → Glob N m) (ht : tblOK ops tbl = true) (hst : Step ops tbl pt s) (hw : WF P N ops tbl e0 base pt) (hcl : Closed ops L)
    (hG : G ops m base e0 pt L ρ w m') (hg : G0 m) {gone : List Nat} (hk : s.k = .fix gone) (hLs : L s.i = false) (hd : ∀ d ∈ dirs ops s.i, L d = true) (h : dstep P N C ops pt s = some pt')
    {I : Env → World → Prop} (hI : ∀ ρ' w' m2, WF P N ops tbl e0 base pt' → G ops m base e0 pt' (L.add s.i) ρ' w' m2 → I ρ' w') : stepI P ops s.i I ρ w := by
  have hg' : G0 m' := hGm _ _ hG.le.sub hg
  unfold dstep at h
  split at h <;> try (cases h; done)
  rename_i o ho
  have hpair : ∀ v, (⟨s, v⟩ :: pt.rs : List Rc).Pairwise (Rel ops tbl) := fun v => List.pairwise_cons.2 ⟨fun r hr => hst.rel r hr v, hw.rel⟩
  have hszs : ∀ v, ∀ q ∈ (⟨s, v⟩ :: pt.rs : List Rc), q.s.i < ops.size := fun v q hq => by
    rcases List.mem_cons.1 hq with rfl | hq
    · exact hst.sz
    · exact hw.sz q hq
  have her : ∀ v, ER m' (EL ops L e0 ([] ++ ⟨s, v⟩ :: pt.rs)) ρ := fun v => by
    show ER m' (EL ops L e0 (⟨s, v⟩ :: pt.rs)) ρ
    rw [EL_new (show L (Rc.mk s v).s.i = false from hLs)]
    exact hG.er
  have he : ER m' (restr s.lk pt.e) ρ := by
    have := look_er (nw := []) (r := ⟨s, undef⟩) ht hcl (hpair undef) (hszs undef) hLs hd (her undef)
    rw [hw.env]
    exact this
  have hmust : ∀ i, (i = s.i ∨ i ∈ tb tbl s.i ∨ i ∈ pt.must) → L.add s.i i = true := fun i hi => by
    by_cases e : i = s.i
    · rw [e]; exact LF.add_same L _
    · rw [LF.add_ne L e]
      rcases hi with hi | hi | hi
      · exact absurd hi e
      · exact tbl_in ht hcl s.i hst.sz hd i hi
      · exact hG.must i hi
  have hpi : ∀ q ∈ pt.pn, q.i ≠ s.i := fun q hq => hst.fresh _ (hw.mine q hq).1
  have hput : ∀ {m2 : Ren} {v v' : Value}, (∀ b a, m' b = some a → m2 b = some a) → VR m2 v v' → ER m2 (EL ops (L.add s.i) e0 (⟨s, v⟩ :: pt.rs)) (V.put ρ o.dst v') := fun {m2 v v'} hle hv => by
    rw [← dst_of ho]
    exact put_er (nw := []) (r := ⟨s, v⟩) ht hcl (hpair v) (hszs v) hLs (fun i u hu => (her v i u hu).imp hle) hv
  refine stepI_of ho ?_
  split at h <;> try (cases h; done)
  · rename_i hgr
    rw [hk] at h
    cases h
    refine gRun_ok he hgr (fun e => by cases e) fun _ => hI _ _ m' ?_ ⟨hG.le, ?_, hG.fresh, fun q hq hqL => ?_, hG.res, hput (fun _ _ h => h) (.tup .nil), fun i hi => ?_⟩
    · refine WF.same (pt' := { pt with must := s.i :: pt.must }) hst hw rfl rfl (fun p hp => hp) (fun i hi => List.mem_cons_of_mem _ hi) rfl rfl hw.reads (.inl List.mem_cons_self)
    · have : hL (Pt.note { pt with must := s.i :: pt.must } ops s undef) (L.add s.i) = hL pt L := hL_same (show NoRole pt.pn s.i from norole hst hw)
      rw [this]; exact hG.sim
    · have hq : q ∈ pt.pn := hq
      rw [LF.add_ne L (hpi q hq)] at hqL
      exact hG.pend q hq hqL
    · rcases List.mem_cons.1 (show i ∈ s.i :: pt.must from hi) with hi | hi
      · exact hmust i (.inl hi)
      · exact hmust i (.inr (.inr hi))
  · rename_i hgr
    rw [hk] at h
    simp only at h
    split at h <;> try (cases h; done)
    rename_i v pt1 hf
    cases h
    refine gRun_ok he hgr (fun _ => ?_) (fun e => by cases e)
    obtain ⟨st', hgi, hx, hle, hrd, e1⟩ := dFix_out hf
    -- the names that are still open
    have hsub : ∀ q ∈ pt.pn.filter (fun q => !(has gone q.i)), q ∈ pt.pn ∧ q.i ∉ gone := by
      intro q hq
      obtain ⟨h1, h2⟩ := List.mem_filter.1 hq
      exact ⟨h1, fun e => by rw [has_iff.2 e] at h2; cases h2⟩
    generalize hpn : pt.pn.filter (fun q => !(has gone q.i)) = pn' at *
    have hnod' : pn'.Pairwise Apart := by rw [← hpn]; exact hw.nod.sublist List.filter_sublist
    have hsome : ∀ q ∈ pn', (pt.C.heap.get q.n).isSome = true := fun q hq => by
      obtain ⟨bk, h1, _⟩ := (hw.names q (hsub q hq).1).2
      rw [h1]; rfl
    have hat : ∀ {b}, b ∈ pn'.map (·.n) → ∃ q ∈ pn', q.n = b ∧ pnAt pn' b = some q ∧ pnAt pt.pn b = some q := by
      intro b hb
      obtain ⟨q, hq, e⟩ := List.mem_map.1 hb
      exact ⟨q, hq, e, by rw [← e]; exact pnAt_mem hnod' hq, by rw [← e]; exact pnAt_mem hw.nod (hsub q hq).1⟩
    have hQ : ∀ b k, (killN pn' pt.C.heap).get b = some k → k ≠ .dead → b ∉ pn'.map (·.n) ∧ hL pt L b = some k := by
      intro b k hb hdd
      rw [killN_get] at hb
      split at hb
      · cases hb; exact absurd rfl hdd
      · rename_i hn
        refine ⟨hn, ?_⟩
        unfold hL
        cases hp : pnAt pt.pn b with
        | none => exact hb
        | some q =>
          obtain ⟨g1, g2⟩ := pnAt_some hp
          have hqg : q.i ∈ gone := by
            cases hh : has gone q.i with
            | true => exact has_iff.1 hh
            | false => exact absurd (by rw [← g2, ← hpn]; exact List.mem_map_of_mem (List.mem_filter.2 ⟨g1, by rw [hh]; rfl⟩)) hn
          show cont L q _ = _
          unfold cont
          rw [tbl_in ht hcl s.i hst.sz hd _ (hst.gone gone hk _ hqg), cond_true, hgi q g1 hqg, g2]
          exact hb
    have hnx0 : ∀ b, pt.C.next ≤ b → b ∉ pn'.map (·.n) := fun b hb hm => by
      obtain ⟨q, hq, e⟩ := List.mem_map.1 hm
      have := (hw.names q (hsub q hq).1).1
      omega
    let mr : Ren := ⟨m'.f, w, fun c => ∃ b k a, (killN pn' pt.C.heap).get b = some k ∧ k ≠ .dead ∧ m' b = some a ∧ a.blk = c, fun b => m'.R b ∨ ∃ q ∈ pn', L q.i = false ∧ q.n = b, m'.lp⟩
    have himp : ∀ b a, m' b = some a → mr b = some a := fun _ _ h => h
    have hsr : Sim mr ⟨killN pn' pt.C.heap, pt.C.next⟩ w := by
      refine ⟨fun b k hb hdd => ?_, fun b b' k k' a a' hb hdd hb' hdd' ha ha' e => ?_, fun b hb => ⟨hG.fresh b hb, ?_⟩, hG.sim.lt, Fr.refl _ _, fun b k a hb hdd ha => .inl ⟨b, k, a, hb, hdd, ha, rfl⟩, fun b hb => ?_, hG.sim.lpl⟩
      · obtain ⟨a, ob, g1, g2, g3⟩ := hG.sim.obj b k (hQ b k hb hdd).2 hdd
        exact ⟨a, ob, g1, g2, g3.imp himp fun _ _ h => h⟩
      · exact hG.sim.inj b b' k k' a a' (hQ b k hb hdd).2 hdd (hQ b' k' hb' hdd').2 hdd' ha ha' e
      · show (killN pn' pt.C.heap).get b = none
        rw [killN_get, if_neg (hnx0 b hb)]
        exact hw.nx b hb
      · rcases hb with hb | ⟨q, hq, hqL, rfl⟩
        · rw [hG.le.R] at hb
          obtain ⟨g1, g2⟩ := hG.res b hb
          exact ⟨g1, Nat.lt_of_lt_of_le g2 hw.bs⟩
        · exact ⟨hG.pend q (hsub q hq).1 hqL, (hw.names q (hsub q hq).1).1⟩
    refine xOp_ok hC hsr (fun i u hu => (he i u hu).imp himp) (hN mr (hGm _ _ ⟨himp, fun _ _ h => h⟩ hg')) (hGm _ _ ⟨himp, fun _ _ h => h⟩ hg') hx fun m1 v' w1 hle1 hv hs1 => ?_
    -- behind the operation
    have hf1 : ∀ b a, m' b = some a → m1 b = some a := fun b a hb => hle1.at_ b a hb
    let m2 : Ren := ⟨m1.f, m'.w0, m'.F, m'.R, m1.lp⟩
    have himp2 : ∀ b a, m1 b = some a → m2 b = some a := fun _ _ h => h
    have hgetN : ∀ b, b ∉ pn'.map (·.n) → (backN pt.C.heap pn' st'.heap).get b = st'.heap.get b := fun b hb => by rw [backN_get hsome, if_neg hb]
    have hgetY : ∀ b, b ∈ pn'.map (·.n) → (backN pt.C.heap pn' st'.heap).get b = pt.C.heap.get b := fun b hb => by rw [backN_get hsome, if_pos hb]
    have hnx1 : ∀ b, st'.next ≤ b → (backN pt.C.heap pn' st'.heap).get b = none := fun b hb => by
      rw [hgetN b (hnx0 b (Nat.le_trans hle hb))]
      exact (hs1.fresh b hb).2
    have hwf : WF P N ops tbl e0 base (pt1.note ops s v) := wf_fix (o := o) (gone := gone) hst hw hf (by rw [e1]; exact hnx1)
    -- what the heap says
    have hpt1 : ∀ b, hL (pt1.note ops s v) (L.add s.i) b = if b ∈ pn'.map (·.n) then hL pt L b else st'.heap.get b := by
      intro b
      show (match pnAt pt1.pn b with | some q => cont (L.add s.i) q pt1.C.heap | none => pt1.C.heap.get b) = _
      rw [e1]
      show (match pnAt pn' b with | some q => cont (L.add s.i) q (backN pt.C.heap pn' st'.heap) | none => (backN pt.C.heap pn' st'.heap).get b) = _
      by_cases hb : b ∈ pn'.map (·.n)
      · rw [if_pos hb]
        obtain ⟨q, hq, g1, g2, g3⟩ := hat hb
        rw [g2]
        unfold hL
        rw [g3]
        show cont _ q _ = cont _ q _
        unfold cont
        rw [LF.add_ne L (hpi q (hsub q hq).1), insL_add (fun x hx => hst.fresh _ ((hw.keys q (hsub q hq).1).2.2 x hx).2), hgetY q.n (by rw [g1]; exact hb)]
      · rw [if_neg hb]
        cases hp : pnAt pn' b with
        | some q =>
          obtain ⟨g1, g2⟩ := pnAt_some hp
          exact absurd (by rw [← g2]; exact List.mem_map_of_mem g1) hb
        | none => exact hgetN b hb
    have hF : ∀ c, mr.F c → m'.F c ∨ m'.w0.heap.size ≤ c := by
      rintro c ⟨b, k, a, g1, g2, g3, rfl⟩
      exact hG.sim.own b k a (hQ b k g1 g2).2 g2 g3
    have hnF : ∀ b k a, b ∈ pn'.map (·.n) → hL pt L b = some k → k ≠ .dead → m' b = some a → ¬ mr.F a.blk := by
      rintro b k a hb hk hdd ha ⟨b2, k2, a2, g1, g2, g3, g4⟩
      obtain ⟨q1, q2⟩ := hQ b2 k2 g1 g2
      have := hG.sim.inj b2 b k2 k a2 a q2 g2 hk hdd g3 ha g4
      exact q1 (by rw [this]; exact hb)
    have hfr : Fr mr.F w w1 := by
      have := hs1.fr
      rw [hle1.F, hle1.w0] at this
      exact this
    have hown1 : ∀ b k a, st'.heap.get b = some k → k ≠ .dead → m1 b = some a → mr.F a.blk ∨ w.heap.size ≤ a.blk := fun b k a hb hdd ha => by
      have := hs1.own b k a hb hdd ha
      rw [hle1.F, hle1.w0] at this
      exact this
    have hold : ∀ b k, hL pt L b = some k → k ≠ .dead → ∃ a, m' b = some a := fun b k hb hdd => let ⟨a, _, g, _⟩ := hG.sim.obj b k hb hdd; ⟨a, g⟩
    refine hI _ _ m2 hwf ⟨⟨fun b a hb => hf1 b a (hG.le.at_ b a hb), hG.le.w0, hG.le.F, hG.le.R, fun c r hc => hle1.lp c r (hG.le.lp c r hc)⟩, ⟨fun b k hb hdd => ?_, fun b b' k k' a a' hb hdd hb' hdd' ha ha' e => ?_, hs1.lt, ?_, fun b k a hb hdd ha => ?_, hs1.lpl⟩, fun b hb => ?_, fun q hq hqL => ?_, fun b hb => ?_, ?_, fun i hi => ?_⟩
    · rw [hpt1] at hb
      split at hb
      · rename_i hbn
        obtain ⟨a, ob, g1, g2, g3⟩ := hG.sim.obj b k hb hdd
        exact ⟨a, ob, hf1 b a g1, hfr.get g2 (hnF b k a hbn hb hdd g1), g3.imp (m' := m2) hf1 hle1.lp⟩
      · obtain ⟨a, ob, g1, g2, g3⟩ := hs1.obj b k hb hdd
        exact ⟨a, ob, g1, g2, g3.imp himp2 fun _ _ h => h⟩
    · have mixed : ∀ {b b' k k' a a'}, b ∈ pn'.map (·.n) → hL pt L b = some k → k ≠ .dead → st'.heap.get b' = some k' → k' ≠ .dead → m1 b = some a → m1 b' = some a' → a.blk = a'.blk → False := by
        intro b b' k k' a a' hbn hb hdd hb' hdd' ha ha' e
        obtain ⟨a0, g0⟩ := hold b k hb hdd
        have := hf1 b a0 g0
        rw [ha] at this
        cases this
        rcases hown1 b' k' a' hb' hdd' ha' with g | g
        · rw [← e] at g
          exact hnF b k a hbn hb hdd g0 g
        · have := hG.sim.lt b a g0
          omega
      rw [hpt1] at hb hb'
      split at hb
      · rename_i hbn
        split at hb'
        · rename_i hbn'
          obtain ⟨a0, g0⟩ := hold b k hb hdd
          obtain ⟨a0', g0'⟩ := hold b' k' hb' hdd'
          have q1 := hf1 b a0 g0
          have q2 := hf1 b' a0' g0'
          have ha1 : m1 b = some a := ha
          have ha1' : m1 b' = some a' := ha'
          rw [ha1] at q1
          rw [ha1'] at q2
          cases q1
          cases q2
          exact hG.sim.inj b b' k k' a a' hb hdd hb' hdd' g0 g0' e
        · exact (mixed hbn hb hdd hb' hdd' ha ha' e).elim
      · rename_i hbn
        split at hb'
        · rename_i hbn'
          exact (mixed hbn' hb' hdd' hb hdd ha' ha e.symm).elim
        · exact hs1.inj b b' k k' a a' hb hdd hb' hdd' ha ha' e
    · show Fr m'.F m'.w0 w1
      exact hG.sim.fr.trans hfr fun x hx hxF => (hF x hxF).resolve_right (Nat.not_le.2 hx)
    · show m'.F a.blk ∨ m'.w0.heap.size ≤ a.blk
      rw [hpt1] at hb
      split at hb
      · obtain ⟨a0, g0⟩ := hold b k hb hdd
        have := hf1 b a0 g0
        have ha1 : m1 b = some a := ha
        rw [ha1] at this
        cases this
        exact hG.sim.own b k a hb hdd g0
      · rcases hown1 b k a hb hdd ha with g | g
        · exact hF _ g
        · exact .inr (Nat.le_trans hG.sim.fr.size g)
    · have hb' : st'.next ≤ b := by rw [e1] at hb; exact hb
      exact (hs1.fresh b hb').1
    · have hq : q ∈ pn' := by rw [e1] at hq; exact hq
      rw [LF.add_ne L (hpi q (hsub q hq).1)] at hqL
      have : m1.R q.n := by rw [hle1.R]; exact .inr ⟨q, hq, hqL, rfl⟩
      exact (hs1.res _ this).1
    · refine ⟨?_, (hG.res b hb).2⟩
      have : m1.R b := by rw [hle1.R]; exact .inl (by rw [hG.le.R]; exact hb)
      exact (hs1.res _ this).1
    · have : (pt1.note ops s v).rs = ⟨s, v⟩ :: pt.rs := by rw [e1]; rfl
      rw [this]
      exact hput (fun b a h => hf1 b a h) (hv.imp himp2)
    · have hi' : i ∈ s.i :: (gone ++ pt.must) := by rw [e1] at hi; exact hi
      rcases List.mem_cons.1 hi' with hi | hi
      · exact hmust i (.inl hi)
      · rcases List.mem_append.1 hi with hi | hi
        · exact hmust i (.inr (.inl (hst.gone gone hk i hi)))
        · exact hmust i (.inr (.inr hi))

/-! ### The whole -/

def Chain (ops : Array Oper) : List DS → Prop
  | [] => True
  | s :: r => (∀ d ∈ dirs ops s.i, d ∈ r.map (·.i)) ∧ Chain ops r

structure Cond (P : Program) (N : Nat) (C : Caller) (ops : Array Oper) (tbl : List (List Nat)) (e0 : Ev) (base : Nat) (ptE : Pt) (m : Ren) (bef rem : List DS) (pt : Pt) (L : LF) (ρ : Env) (w : World) (mm : Ren) : Prop where
  fold : dfold P N C ops pt rem = some ptE
  ord : orderOK ops tbl bef rem = true
  rs : pt.rs.map (·.s) = bef
  chain : Chain ops bef
  lo : ∀ s ∈ rem, L s.i = false
  all : ∀ i, i < ops.size → i ∈ bef.map (·.i) ∨ i ∈ rem.map (·.i)
  wf : WF P N ops tbl e0 base pt
  g : G ops m base e0 pt L ρ w mm

theorem rs_ids {bef : List DS} (h : pt.rs.map (·.s) = bef) : pt.rs.map (·.s.i) = bef.map (·.i) := by
  rw [← h, List.map_map]
  rfl

theorem step_of {bef r : List DS} (h : orderOK ops tbl bef (s :: r) = true) (hrs : pt.rs.map (·.s) = bef) : Step ops tbl pt s ∧ (∀ d ∈ dirs ops s.i, d ∈ bef.map (·.i)) ∧ orderOK ops tbl (s :: bef) r = true ∧ ∀ g, s.k = .fix g → ∀ s' ∈ r, s.i ∈ tb tbl s'.i := by
  unfold orderOK at h
  obtain ⟨h, h5⟩ := Bool.and_eq_true_iff.1 h
  obtain ⟨h, h4⟩ := Bool.and_eq_true_iff.1 h
  obtain ⟨h, h3⟩ := Bool.and_eq_true_iff.1 h
  obtain ⟨h1, h2⟩ := Bool.and_eq_true_iff.1 h
  refine ⟨⟨by rwa [Nat.blt_eq] at h1, fun r hr v => ?_, fun j hj => ?_, fun g hg => ?_⟩, fun d hd => has_iff.1 (List.all_eq_true.1 h2 d hd), h5, fun g hg s' hs' => ?_⟩
  · exact rel_of (List.all_eq_true.1 h3 r.s (by rw [← hrs]; exact List.mem_map_of_mem hr))
  · unfold kindOK at h4
    rw [hj] at h4
    exact has_iff.1 h4
  · unfold kindOK at h4
    rw [hg] at h4
    exact fun i hi => has_iff.1 (List.all_eq_true.1 (Bool.and_eq_true_iff.1 h4).1 i hi)
  · unfold kindOK at h4
    rw [hg] at h4
    exact has_iff.1 (List.all_eq_true.1 (Bool.and_eq_true_iff.1 h4).2 s' hs')

theorem dstep_rs {pt' : Pt} (h : dstep P N C ops pt s = some pt') : pt'.rs.map (·.s) = s :: pt.rs.map (·.s) := by
  unfold dstep at h
  split at h <;> try (cases h; done)
  split at h <;> try (cases h; done)
  · split at h <;> (cases h; rfl)
  · split at h
    · split at h <;> try (cases h; done)
      cases h; rfl
    · split at h <;> try (cases h; done)
      cases h; rfl
    · split at h <;> try (cases h; done)
      cases h; rfl
    · split at h <;> try (cases h; done)
      rename_i pt1 hv
      cases h
      unfold dIns at hv
      repeat' (split at hv <;> try (cases hv; done))
      cases hv
      rfl
    · split at h <;> try (cases h; done)
      rename_i v pt1 hv
      cases h
      obtain ⟨st', _, _, _, _, e⟩ := dFix_out hv
      rw [e]
      rfl

def headFix : List DS → Prop
  | [] => True
  | s :: _ => ∃ g, s.k = .fix g

/-- on to the next step of the chain -/
theorem advance {ptE : Pt} : ∀ (rem bef : List DS) (pt : Pt), Cond P N C ops tbl e0 base ptE m bef rem pt L ρ w m' → ∃ bef' rem' pt', headFix rem' ∧ Cond P N C ops tbl e0 base ptE m bef' rem' pt' L ρ w m'
  | [], bef, pt, h => ⟨bef, [], pt, trivial, h⟩
  | s :: r, bef, pt, h => by
    cases hk : s.k with
    | fix g => exact ⟨bef, s :: r, pt, ⟨g, hk⟩, h⟩
    | _ =>
      have hnf : notFix s := fun g e => by rw [hk] at e; cases e
      obtain ⟨h1, h2, h3, h4⟩ := step_of h.ord h.rs
      have hf := h.fold
      unfold dfold at hf
      split at hf <;> try (cases hf; done)
      rename_i pt1 hs
      have hl := h.lo s List.mem_cons_self
      refine advance r (s :: bef) pt1 ⟨hf, h3, by rw [dstep_rs hs, h.rs], ⟨h2, h.chain⟩, fun x hx => h.lo x (List.mem_cons_of_mem _ hx), fun i hi => ?_, wf_light h1 h.wf hnf hs, G_light h.wf hnf hs hl h.g⟩
      rcases h.all i hi with g | g
      · exact .inl (by rw [List.map_cons]; exact List.mem_cons_of_mem _ g)
      · rw [List.map_cons] at g
        rcases List.mem_cons.1 g with g | g
        · exact .inl (by rw [List.map_cons, g]; exact List.mem_cons_self)
        · exact .inr g

/-- where not all is done, something may be done -/
theorem some_ready {l : Array Bool} (hsz : l.size = ops.size) : ∀ {bef : List DS}, Chain ops bef → (∀ s ∈ bef, s.i < ops.size) → (∃ s ∈ bef, l.getD s.i false = false) → ∃ i, i ∈ Region.ready .any ops l
  | [], _, _, ⟨s, hs, _⟩ => by cases hs
  | s :: r, ⟨h1, h2⟩, hb, hx => by
    by_cases hr : ∃ s ∈ r, l.getD s.i false = false
    · exact some_ready hsz h2 (fun x hx => hb x (List.mem_cons_of_mem _ hx)) hr
    · obtain ⟨s', hs', hl⟩ := hx
      rcases List.mem_cons.1 hs' with e | hs'
      · subst e
        have hlt := hb s' List.mem_cons_self
        refine ⟨s'.i, mem_ready.2 ⟨?_, ops[s'.i], by simp [hlt], fun e he hbn => ?_⟩⟩
        · have : s'.i < l.size := by rw [hsz]; exact hlt
          simp [this] at hl ⊢
          exact hl
        · have hd : e.on ∈ dirs ops s'.i := by
            unfold dirs
            simp only [Array.getElem?_eq_getElem hlt]
            refine List.mem_map.2 ⟨e, List.mem_filter.2 ⟨by simpa using he, hbn⟩, rfl⟩
          obtain ⟨x, hx, e2⟩ := List.mem_map.1 (h1 _ hd)
          cases hv : l.getD e.on false with
          | true => rfl
          | false => exact absurd ⟨x, hx, by rw [e2]; exact hv⟩ hr
      · exact absurd ⟨s', hs', hl⟩ hr

def lfOf (l : Array Bool) : LF := fun i => l.getD i false

theorem lf_set {l : Array Bool} {i : Nat} (h : i < l.size) : lfOf (l.setIfInBounds i true) = (lfOf l).add i := by
  funext j
  unfold lfOf
  by_cases e : j = i
  · subst e
    rw [LF.add_same]
    simp [h]
  · rw [LF.add_ne _ e]
    exact getD_set_ne false (fun e2 => e e2.symm)

theorem xDraw_ok (hC : COk P G0 C) (hGm : ∀ m m' : Ren, m.sub m' → G0 m → G0 m') (hN : ∀ m, G0 m → Glob N m) {dp : DP} (hok : dpOK ops dp = true) {st st' : St} {e e' : Ev} (hs : Sim m st w) (he : ER m e ρ) (hg : G0 m)
    (h : xDraw P N C ops dp e st = some (e', st')) {K : Env → World → Prop} (hk : ∀ m' ρ' w', m.le m' → ER m' e' ρ' → Sim m' st' w' → K ρ' w') : anyI P ops ρ w K := by
  unfold xDraw at h
  split at h <;> try (cases h; done)
  rename_i ptE hfold
  cases h
  unfold dpOK at hok
  obtain ⟨hok, h3⟩ := Bool.and_eq_true_iff.1 hok
  obtain ⟨ht, h2⟩ := Bool.and_eq_true_iff.1 hok
  have hall : ∀ i, i < ops.size → i ∈ dp.steps.map (·.i) := fun i hi => has_iff.1 (List.all_eq_true.1 h3 i (List.mem_range.2 hi))
  refine ⟨fun l ρ w => l.size = ops.size ∧ Closed ops (lfOf l) ∧ ∃ bef rem pt mm, headFix rem ∧ Cond P N C ops dp.tbl e st.next ptE m bef rem pt (lfOf l) ρ w mm, ?_, ?_, ?_⟩
  · refine ⟨by simp, fun i hi => ?_, ?_⟩
    · unfold lfOf at hi
      rw [Array.getD_eq_getD_getElem?, Array.getElem?_replicate] at hi
      split at hi <;> cases hi
    · have hlf : ∀ i, lfOf (Array.replicate ops.size false) i = false := fun i => by
        unfold lfOf
        rw [Array.getD_eq_getD_getElem?, Array.getElem?_replicate]
        split <;> rfl
      obtain ⟨bef, rem, pt, q1, q2⟩ := advance (P := P) (N := N) (C := C) (ops := ops) (tbl := dp.tbl) (e0 := e) (base := st.next) (ptE := ptE) (m := m) (L := lfOf (Array.replicate ops.size false)) (ρ := ρ) (w := w.drew) (m' := m) dp.steps [] ⟨st, e, [], [], [], []⟩
        ⟨hfold, h2, rfl, trivial, fun s _ => hlf s.i, fun i hi => .inr (hall i hi),
          ⟨fun b hb => (hs.fresh b hb).2, fun q hq => (by cases hq), List.Pairwise.nil, fun q hq => (by cases hq), rfl, List.Pairwise.nil, fun r hr => (by cases hr), fun p hp => (by cases hp), trivial, Nat.le_refl _, fun q hq => (by cases hq)⟩,
          ⟨Ren.le.refl m, hs.drew.toH, fun b hb => (hs.fresh b hb).1, fun q hq => (by cases hq), hs.res, he, fun i hi => (by cases hi)⟩⟩
      exact ⟨bef, rem, pt, m, q1, q2⟩
  · rintro l ρ w ⟨hsz, hcl, bef, rem, pt, mm, hh, hc⟩ hr
    have hbsz : ∀ s ∈ bef, s.i < ops.size := fun s hs => by
      rw [← hc.rs] at hs
      obtain ⟨r, hr, rfl⟩ := List.mem_map.1 hs
      exact hc.wf.sz r hr
    have hin : ∀ s ∈ bef, lfOf l s.i = true := fun s hs => by
      cases hq : lfOf l s.i with
      | true => rfl
      | false =>
        obtain ⟨i, hi⟩ := some_ready hsz hc.chain hbsz ⟨s, hs, hq⟩
        rw [hr] at hi
        cases hi
    cases rem with
    | cons s r =>
      exfalso
      obtain ⟨g1, g2, g3, g4⟩ := step_of hc.ord hc.rs
      have : s.i ∈ Region.ready .any ops l := by
        refine mem_ready.2 ⟨?_, ops[s.i]'g1.sz, by simp [g1.sz], fun e he hbn => ?_⟩
        · have h1 := hc.lo s List.mem_cons_self
          have : s.i < l.size := by rw [hsz]; exact g1.sz
          unfold lfOf at h1
          simp [this] at h1 ⊢
          exact h1
        · have hd : e.on ∈ dirs ops s.i := by
            unfold dirs
            simp only [Array.getElem?_eq_getElem g1.sz]
            refine List.mem_map.2 ⟨e, List.mem_filter.2 ⟨by simpa using he, hbn⟩, rfl⟩
          obtain ⟨x, hx, e2⟩ := List.mem_map.1 (g2 _ hd)
          rw [← e2]
          exact hin x hx
      rw [hr] at this
      cases this
    | nil =>
      have hf := hc.fold
      unfold dfold at hf
      cases hf
      have hrs : ∀ r ∈ ptE.rs, lfOf l r.s.i = true := fun r hr => hin r.s (by rw [← hc.rs]; exact List.mem_map_of_mem hr)
      have hids : ∀ i ∈ ptE.rs.map (·.s.i), lfOf l i = true := fun i hi => by
        obtain ⟨r, hr, rfl⟩ := List.mem_map.1 hi
        exact hrs r hr
      have hh : ∀ b, hL ptE (lfOf l) b = ptE.C.heap.get b := by
        intro b
        unfold hL
        cases hp : pnAt ptE.pn b with
        | none => rfl
        | some q =>
          obtain ⟨g1, g2⟩ := pnAt_some hp
          show cont _ q _ = _
          unfold cont
          rw [hids _ (hc.wf.mine q g1).1, cond_true]
          cases hi : q.ins with
          | nil => rw [g2]
          | cons y ys =>
            obtain ⟨bk, q1, _, q2⟩ := (hc.wf.names q g1).2
            rw [← g2, q1, q2 (by rw [hi]; exact List.cons_ne_nil _ _)]
            have : q.ins.filter (fun x => lfOf l x.1) = q.ins := List.filter_eq_self.2 fun x hx => hids _ ((hc.wf.keys q g1).2.2 x hx).2
            unfold insL
            rw [this, List.length_map]
      have hsim : Sim mm ptE.C w := hc.g.sim.view (fun b k hb _ => by rw [hh]; exact hb) (fun b hb => ⟨hc.g.fresh b hb, hc.wf.nx b hb⟩) (fun b hb => by
        rw [hc.g.le.R] at hb
        obtain ⟨q1, q2⟩ := hc.g.res b hb
        exact ⟨q1, Nat.lt_of_lt_of_le q2 hc.wf.bs⟩)
      refine hk mm ρ w hc.g.le ?_ hsim
      rw [hc.wf.env, ← EL_congr (L := lfOf l) fun q hq => hrs q hq]
      exact hc.g.er
  · rintro l ρ w ⟨hsz, hcl, bef, rem, pt, mm, hh, hc⟩ i hi
    obtain ⟨hun, o, ho, hdone⟩ := mem_ready.1 hi
    have hlt : i < ops.size := (Array.getElem?_eq_some_iff.1 ho).1
    have hltl : i < l.size := by rw [hsz]; exact hlt
    have hLi : lfOf l i = false := by
      unfold lfOf
      simp [hltl] at hun ⊢
      exact hun
    have hd : ∀ d ∈ dirs ops i, lfOf l d = true := by
      intro d hd
      unfold dirs at hd
      rw [ho] at hd
      obtain ⟨e, he, rfl⟩ := List.mem_map.1 hd
      obtain ⟨h1, h2⟩ := List.mem_filter.1 he
      exact hdone e (by simpa using h1) h2
    have hcl' : Closed ops (lfOf (l.setIfInBounds i true)) := by
      rw [lf_set hltl]
      intro j hj d hdj
      by_cases e : d = i
      · rw [e]; exact LF.add_same _ _
      · rw [LF.add_ne _ e]
        by_cases e2 : j = i
        · rw [e2] at hdj; exact hd d hdj
        · rw [LF.add_ne _ e2] at hj; exact hcl j hj d hdj
    have hsz' : (l.setIfInBounds i true).size = ops.size := by simpa using hsz
    by_cases hb : i ∈ bef.map (·.i)
    · have hb' : i ∈ pt.rs.map (·.s.i) := by rw [rs_ids hc.rs]; exact hb
      refine exec_light ht hc.wf hcl hc.g (hN mm (hGm _ _ hc.g.le.sub hg)) hb' hLi hd fun ρ' w' m2 hG2 => ?_
      rw [← lf_set hltl] at hG2
      refine ⟨hsz', hcl', bef, rem, pt, m2, hh, hc.fold, hc.ord, hc.rs, hc.chain, fun s hs => ?_, hc.all, hc.wf, hG2⟩
      rw [lf_set hltl, LF.add_ne]
      · exact hc.lo s hs
      · intro e
        have hi2 := hc.ord
        have : ∀ {bef rem : List DS}, orderOK ops dp.tbl bef rem = true → s ∈ rem → ∀ x ∈ bef, x.i ≠ s.i := by
          intro bef rem
          induction rem generalizing bef with
          | nil => intro _ h; cases h
          | cons y rem ih =>
            intro hor hmem x hx
            unfold orderOK at hor
            obtain ⟨hor, k5⟩ := Bool.and_eq_true_iff.1 hor
            obtain ⟨hor, k4⟩ := Bool.and_eq_true_iff.1 hor
            obtain ⟨hor, k3⟩ := Bool.and_eq_true_iff.1 hor
            rcases List.mem_cons.1 hmem with e | hmem
            · subst e
              have := rel_of (q := ⟨s, undef⟩) (r := ⟨x, undef⟩) (List.all_eq_true.1 k3 x hx)
              exact fun e => this.1 e.symm
            · exact ih k5 hmem x (List.mem_cons_of_mem _ hx)
        obtain ⟨x, hx, e3⟩ := List.mem_map.1 hb
        exact this hc.ord hs x hx (e3.trans e.symm)
    · have hr := (hc.all i hlt).resolve_left hb
      cases rem with
      | nil => cases hr
      | cons s r =>
        obtain ⟨g1, g2, g3, g4⟩ := step_of hc.ord hc.rs
        obtain ⟨g, hg4⟩ := hh
        have hi : i = s.i := by
          rw [List.map_cons] at hr
          rcases List.mem_cons.1 hr with e | hr
          · exact e
          · exfalso
            obtain ⟨s', hs', e⟩ := List.mem_map.1 hr
            have := tbl_in ht hcl i hlt hd _ (by rw [← e]; exact g4 g hg4 s' hs')
            rw [hc.lo s List.mem_cons_self] at this
            cases this
        subst hi
        have hf := hc.fold
        unfold dfold at hf
        split at hf <;> try (cases hf; done)
        rename_i pt1 hs1
        refine exec_fix hC hGm hN ht g1 hc.wf hcl hc.g hg hg4 hLi hd hs1 fun ρ' w' m2 hwf hG2 => ?_
        rw [← lf_set hltl] at hG2
        have hne : ∀ x ∈ r, x.i ≠ s.i := by
          have : ∀ {bef rem : List DS}, orderOK ops dp.tbl bef rem = true → ∀ y ∈ bef, ∀ x ∈ rem, x.i ≠ y.i := by
            intro bef rem
            induction rem generalizing bef with
            | nil => intro _ y _ x h; cases h
            | cons z rem ih =>
              intro hor y hy x hmem
              unfold orderOK at hor
              obtain ⟨hor, k5⟩ := Bool.and_eq_true_iff.1 hor
              obtain ⟨hor, k4⟩ := Bool.and_eq_true_iff.1 hor
              obtain ⟨hor, k3⟩ := Bool.and_eq_true_iff.1 hor
              rcases List.mem_cons.1 hmem with e | hmem
              · subst e
                have := rel_of (q := ⟨x, undef⟩) (r := ⟨y, undef⟩) (List.all_eq_true.1 k3 y hy)
                exact this.1
              · exact ih k5 y (List.mem_cons_of_mem _ hy) x hmem
          exact fun x hx => this g3 s List.mem_cons_self x hx
        obtain ⟨bef', rem', pt', q1, q2⟩ := advance r (s :: bef) pt1 (L := lfOf (l.setIfInBounds s.i true)) ⟨hf, g3, by rw [dstep_rs hs1, hc.rs], ⟨g2, hc.chain⟩, fun x hx => by
            rw [lf_set hltl, LF.add_ne _ (hne x hx)]
            exact hc.lo x (List.mem_cons_of_mem _ hx), fun i hi => by
            rcases hc.all i hi with q | q
            · exact .inl (by rw [List.map_cons]; exact List.mem_cons_of_mem _ q)
            · rw [List.map_cons] at q
              rcases List.mem_cons.1 q with q | q
              · exact .inl (by rw [List.map_cons, q]; exact List.mem_cons_self)
              · exact .inr q, hwf, hG2⟩
        exact ⟨hsz', hcl', bef', rem', pt', m2, q1, q2⟩

end

end Go.X

/-
  THE EXECUTOR, part 24: code, whole; ranges over functions; functions. Own work; generic in the program.
-/
set_option linter.unusedVariables false
set_option maxRecDepth 20000
namespace Go.X
open Go Go.V Go.RowKit

abbrev Res := Exit × Ev × List Nat × St

structure XT where
  t : Tab := {}
  dr : List (Nat × DP) := []

/-- the loops over functions that are under way: what their yields do -/
abbrev Ctx := List (Nat × (St → List Value → Option (Value × St)))
/-- what runs a function -/
abbrev Funs := Ctx → St → Nat → List Value → Option (Value × St)
/-- what answers for a function of the library -/
abbrev Hook := St → Nat → List Value → Option (Value × St)

structure GOK (N : Nat) (G : Ren → Prop) : Prop where
  mono : ∀ m m' : Ren, m.sub m' → G m → G m'
  glob : ∀ m, G m → Glob N m

def CtxOK (P : Program) (G : Ren → Prop) (ctx : Ctx) : Prop := ∀ l rd, (l, rd) ∈ ctx → ∀ m st st' w as as' v (K : Value → World → Prop), Sim m st w → G m → VRs m as as' → rd st as = some (v, st') → Out m st' v K → ∃ a, m l = some a ∧ Round P a.blk as'.toArray w K

def FsOK (P : Program) (N : Nat) (Fs : Funs) : Prop := ∀ ctx (G : Ren → Prop), GOK N G → CtxOK P G ctx → ∀ m st st' w g as as' v (K : Value → World → Prop), Sim m st w → G m → VRs m as as' → Fs ctx st g as = some (v, st') → Out m st' v K → Ret P g as'.toArray w K

def HkOK (P : Program) (N : Nat) (H : Hook) : Prop := ∀ m st st' w g as as' v (K : Value → World → Prop), Sim m st w → Glob N m → VRs m as as' → H st g as = some (v, st') → Out m st' v K → CallK P g as'.toArray w K

def lookC : Ctx → Nat → Option (St → List Value → Option (Value × St))
  | [], _ => none
  | (l, rd) :: r, i => bif Nat.beq l i then some rd else lookC r i

theorem lookC_mem {i : Nat} {rd : St → List Value → Option (Value × St)} : ∀ {ctx : Ctx}, lookC ctx i = some rd → (i, rd) ∈ ctx
  | [], h => by cases h
  | (l, r0) :: r, h => by
    unfold lookC at h
    cases hb : Nat.beq l i with
    | true => rw [hb, cond_true] at h; cases h; rw [Nat.eq_of_beq_eq_true hb]; exact List.mem_cons_self
    | false => rw [hb, cond_false] at h; exact List.mem_cons_of_mem _ (lookC_mem h)

/-- what calls a function's value -/
noncomputable def callerOf (H : Hook) (Fs : Funs) (ctx : Ctx) : Caller := fun st f as =>
  match f with
  | .func (.func g) first cap => match H st g (first.toList ++ as ++ cap.toList) with
    | some r => some r
    | none => Fs ctx st g (first.toList ++ as ++ cap.toList)
  | .func (.yield l) first _ => match lookC ctx l with
    | some rd => rd st (first.toList ++ as)
    | none => none
  | _ => none

theorem callerOf_ok {P : Program} {N : Nat} {H : Hook} {Fs : Funs} (hH : HkOK P N H) (hF : FsOK P N Fs) {ctx : Ctx} {G : Ren → Prop} (hG : GOK N G) (hx : CtxOK P G ctx) : COk P G (callerOf H Fs ctx) := by
  intro m st st' w f f' as as' v K hs hg hf ha h hk
  unfold callerOf at h
  split at h <;> try (cases h; done)
  · cases hf with
    | fn h1 h2 =>
      unfold vCallV
      simp only
      split at h
      · rename_i r hr
        cases h
        exact hH m st st' w _ _ _ v K hs (hG.glob m hg) ((h1.append ha).append h2) hr hk
      · exact .inl (hF ctx G hG hx m st st' w _ _ _ v K hs hg ((h1.append ha).append h2) h hk)
  · split at h <;> try (cases h; done)
    rename_i rd hrd
    cases hf with
    | yld hl =>
      unfold vCallV
      simp only
      obtain ⟨a, q1, q2⟩ := hx _ rd (lookC_mem hrd) m st st' w _ _ v K hs hg (VRs.nil.append ha) h hk
      rw [hl] at q1
      cases q1
      exact q2

def putsE (e : Ev) : List Nat → List Value → Ev
  | t :: ts, v :: vs => putsE (putE e (some t) v) ts vs
  | _, _ => e

theorem putsE_ok {m : Ren} : ∀ {ts : List Nat} {vs vs' : List Value} {e : Ev} {ρ : Env}, VRs m vs vs' → ER m e ρ → ER m (putsE e ts vs) (putAll ρ ts vs')
  | [], _, _, e, ρ, _, he => by unfold putsE putAll; exact he
  | t :: ts, _, _, e, ρ, .nil, he => by unfold putsE putAll; exact he
  | t :: ts, _, _, e, ρ, .cons hx hs, he => by
    unfold putsE putAll
    exact putsE_ok hs (he.put hx (some t))

/-- an exit of a round, as it is kept -/
def jump (ex : Exit) : Option (Option Code) :=
  match ex with
  | .normal => some none
  | .ret => some (some .ret)
  | .exit id => some (some (.exit id))
  | _ => none

/-- behind the iterator's return -/
noncomputable def xEnd (b : Code) (l : Nat) (e : Ev) (ds : List Nat) (st : St) : Option Res :=
  match st.heap.get l with
  | some (.loop .busy _) => none
  | some (.loop _ pe) => match pe with
    | none => some (.normal, e, ds, st.put l (.loop .exhausted pe))
    | some .ret => bif hasRet b then some (.ret, e, ds, st.put l (.loop .exhausted pe)) else none
    | some (.exit id) => bif (exitsOf b).any (Nat.beq id) then some (.exit id, e, ds, st.put l (.loop .exhausted pe)) else none
    | _ => none
  | _ => none

/-- a round, from the call of yield on; xa, xb: its assignment, its body -/
noncomputable def xRound (xa xb : Ev → St → Option Res) (l : Nat) (ps : List Nat) (e0 : Ev) (st : St) (as : List Value) : Option (Value × St) :=
  match st.heap.get l with
  | some (.loop .ready none) => bif Nat.beq as.length ps.length then match xa (putsE e0 ps as) st with
    | some (.normal, e1, [], st1) => match st1.heap.get l with
      | some (.loop .ready none) => match xb e1 (st1.put l (.loop .busy none)) with
        | some (ex, _, _, st2) => match st2.heap.get l, jump ex with
          | some (.loop .busy none), some j => some (.bool j.isNone, st2.put l (.loop (if j.isNone then .ready else .done) j))
          | _, _ => none
        | none => none
      | _ => none
    | _ => none
    else none
  | _ => none

noncomputable def xCode (P : Program) (N : Nat) (H : Hook) (Fs : Funs) (T : XT) : Nat → Ctx → Option Nat → Code → Ev → List Nat → St → Option Res
  | 0, _, _, _, _, _, _ => none
  | n + 1, ctx, r, c, e, ds, st => match c with
    | .skip => some (.normal, e, ds, st)
    | .region id ops draw => match draw with
      | false => match xOps P N (callerOf H Fs ctx) (ops.toList.map (·.dst)) ops.toList [] e st with
        | some (e', st') => some (.normal, e', ds, st')
        | none => none
      | true => match V.look T.t.plan id, V.look T.dr id with
        | none, some dp => match xDraw P N (callerOf H Fs ctx) ops dp e st with
          | some (e', st') => some (.normal, e', ds, st')
          | none => none
        | _, _ => none
    | .seq a b => match xCode P N H Fs T n ctx r a e ds st with
      | some (.normal, e1, ds1, st1) => match V.look T.t.join (V.keyOf b) with
        | none => xCode P N H Fs T n ctx r b e1 ds1 st1
        | some sel => xCode P N H Fs T n ctx r b (restr sel e1) ds1 st1
      | x => x
    | .cond c a b => match evX N e c with
      | some (.bool t) => bif t then xCode P N H Fs T n ctx r a e ds st else xCode P N H Fs T n ctx r b e ds st
      | _ => none
    | .block id c => match xCode P N H Fs T n ctx r c e ds st with
      | some (.exit i, e1, ds1, st1) => bif Nat.beq i id then some (.normal, e1, ds1, st1) else some (.exit i, e1, ds1, st1)
      | x => x
    | .loop c => match xCode P N H Fs T n ctx r c (restr ((V.look T.t.sel (V.keyOf c)).getD []) e) ds st with
      | some (.normal, e1, ds1, st1) => xCode P N H Fs T n ctx r (.loop c) e1 ds1 st1
      | x => x
    | .exit id => some (.exit id, e, ds, st)
    | .ret => some (.ret, e, ds, st)
    | .label _ => some (.normal, e, ds, st)
    | .scope c => match xCode P N H Fs T n ctx r c e ds st with
      | some (.goto _, _, _, _) => none
      | x => x
    | .rangeFunc f ps a b => match evX N e f with
      | some (.func (.func g) first cap) => match r with
        | none => match Fs ((st.next + 1, xRound (fun e s => xCode P N H Fs T n ctx (some (st.next + 1)) a e [] s) (fun e s => xCode P N H Fs T n ctx (some (st.next + 1)) b e [] s) (st.next + 1) ps.toList (restr ((V.look T.t.sel (V.keyOf (.rangeFunc f ps a b))).getD []) e)) :: ctx)
            ((st.new .defer).new (.loop .ready none)) g (first.toList ++ [.func (.yield (st.next + 1)) #[] #[]] ++ cap.toList) with
          | some (_, st1) => xEnd b (st.next + 1) e (st.next :: ds) st1
          | none => none
        | some l0 => match st.heap.get l0 with
          | some (.loop _ _) => match Fs ((st.next, xRound (fun e s => xCode P N H Fs T n ctx (some st.next) a e [] s) (fun e s => xCode P N H Fs T n ctx (some st.next) b e [] s) st.next ps.toList (restr ((V.look T.t.sel (V.keyOf (.rangeFunc f ps a b))).getD []) e)) :: ctx)
              (st.new (.loop .ready none)) g (first.toList ++ [.func (.yield st.next) #[] #[]] ++ cap.toList) with
            | some (_, st1) => xEnd b st.next e ds st1
            | none => none
          | _ => none
      | _ => none
    | _ => none

/-- the regions in whatever order are laid right -/
def okDr (T : XT) : Code → Bool
  | .region id ops draw => !draw || (match V.look T.dr id with
    | some dp => dpOK ops dp
    | none => true)
  | .seq a b => okDr T a && okDr T b
  | .cond _ a b => okDr T a && okDr T b
  | .block _ c => okDr T c
  | .loop c => okDr T c
  | .scope c => okDr T c
  | .rangeFunc _ _ a b => okDr T a && okDr T b
  | _ => true

def RR (m : Ren) (r r' : Option Nat) : Prop :=
  match r, r' with
  | none, none => True
  | some l, some c => ∃ a, m l = some a ∧ a.blk = c
  | _, _ => False

theorem RR.up {m m' : Ren} (h : m.sub m') {r r' : Option Nat} (hr : RR m r r') : RR m' r r' := by
  unfold RR at hr ⊢
  split at hr
  · trivial
  · obtain ⟨a, h1, h2⟩ := hr
    exact ⟨a, h.at_ _ _ h1, h2⟩
  · exact hr.elim

theorem loop_get {m : Ren} {st : St} {w : World} (hs : Sim m st w) {l : Nat} {s : LoopState} {pe : Option Code} {a : At} (ha : m l = some a) (hb : st.heap.get l = some (.loop s pe)) {rec : Loop} (hl : m.lp a.blk = some rec) :
    w.heap[a.blk]? = some (.loop { rec with state := s, pending := pe }) := by
  obtain ⟨a', o, h1, h2, h3⟩ := hs.obj l _ hb (by intro e; cases e)
  rw [ha] at h1
  cases h1
  unfold ObjR at h3
  split at h3
  · rename_i e; cases e
  · rename_i e; cases e
  · rename_i e; cases e
  · rename_i e
    cases e
    obtain ⟨r0, h4, rfl⟩ := h3
    rw [hl] at h4
    cases h4
    exact h2
  · rename_i e; cases e
  · rename_i e; cases e
  · rename_i e; cases e
  · rename_i e; cases e
  · exact h3.elim

theorem loop_put {m : Ren} {st : St} {w : World} (hs : Sim m st w) {l : Nat} {s s' : LoopState} {pe pe' : Option Code} {a : At} (ha : m l = some a) (hb : st.heap.get l = some (.loop s pe)) {rec : Loop} (hl : m.lp a.blk = some rec) :
    Sim m (st.put l (.loop s' pe')) (w.putObj a.blk (.loop { rec with state := s', pending := pe' })) :=
  hs.put hb (by intro e; cases e) ha ⟨rec, hl, rfl⟩

theorem jump_ok {ex : Exit} {j : Option Code} (h : jump ex = some j) {K : Option Code → Prop} (hk : K j) : jumpV ex K := by
  unfold jump at h
  unfold jumpV
  split at h <;> (cases h; try exact hk)

/-- what is known of a loop under way -/
structure LK (G : Ren → Prop) (l : Nat) (a : At) (rec : Loop) (e : Ev) (sel : List Nat) (init : List Value) (r r' : Option Nat) (m : Ren) : Prop where
  g : G m
  at_ : m l = some a
  lp : m.lp a.blk = some rec
  sr : SR m e sel init

theorem SR.up {m m' : Ren} (h : m.sub m') {e : Ev} {sel : List Nat} {vs : List Value} (hs : SR m e sel vs) : SR m' e sel vs := fun j d v h1 h2 => let ⟨v', h3, h4⟩ := hs j d v h1 h2; ⟨v', h3, h4.imp h.at_⟩

theorem LK.gok {N : Nat} {G : Ren → Prop} (hG : GOK N G) (l : Nat) (a : At) (rec : Loop) (e : Ev) (sel : List Nat) (init : List Value) (r r' : Option Nat) : GOK N (LK G l a rec e sel init r r') :=
  ⟨fun m m' h k => ⟨hG.mono m m' h k.g, h.at_ _ _ k.at_, h.lp _ _ k.lp, k.sr.up h⟩, fun m k => hG.glob m k.g⟩

theorem CtxOK.weaken {P : Program} {G G' : Ren → Prop} {ctx : Ctx} (h : CtxOK P G ctx) (hG : ∀ m, G' m → G m) : CtxOK P G' ctx := fun l rd hm m st st' w as as' v K hs hg ha hr hk => h l rd hm m st st' w as as' v K hs (hG m hg) ha hr hk

/-- behind the iterator -/
theorem xEnd_ok {m : Ren} {b : Code} {l : Nat} {e : Ev} {ds : List Nat} {st : St} {w : World} {a : At} {rec : Loop} (hs : Sim m st w) (ha : m l = some a) (hl : m.lp a.blk = some rec) {ex : Exit} {e' : Ev} {ds' : List Nat} {st' : St}
    (h : xEnd b l e ds st = some (ex, e', ds', st')) {ρ : Env} {D : List Nat} {Q : QV} (hd : DR m ds D) (he : ER m e ρ)
    (hk : ∀ m' ρ' D' w', m.le m' → ER m' e' ρ' → DR m' ds' D' → Sim m' st' w' → Q ex ρ' D' w') :
    endV a.blk rec w (fun w' => Q .normal ρ D w') (fun w' => onlyIf (hasRet b) (fun ds' w' => Q .ret ρ ds' w') D w') (fun id w' => exV ((exitsOf b).map fun j => (j, fun ds' w' => Q (.exit j) ρ ds' w')) D id w') := by
  unfold xEnd at h
  split at h <;> try (cases h; done)
  rename_i s pe hnb hb
  have hw := loop_get hs ha hb hl
  have hs' := loop_put (s' := .exhausted) (pe' := pe) hs ha hb hl
  refine ⟨s, pe, hw, fun e => hnb (by rw [e]), ?_⟩
  split at h <;> try (cases h; done)
  · cases h
    exact hk m ρ D _ (Ren.le.refl m) he hd hs'
  · cases hr : hasRet b with
    | false => rw [hr, cond_false] at h; cases h
    | true =>
      rw [hr, cond_true] at h
      cases h
      exact hk m ρ D _ (Ren.le.refl m) he hd hs'
  · rename_i id
    cases hr : (exitsOf b).any (Nat.beq id) with
    | false => rw [hr, cond_false] at h; cases h
    | true =>
      rw [hr, cond_true] at h
      cases h
      have hfin := hk m ρ D _ (Ren.le.refl m) he hd hs'
      show exV _ D id _
      generalize exitsOf b = l at hr
      induction l with
      | nil => cases hr
      | cons j r ih =>
        simp only [List.map_cons, exV]
        cases hj : Nat.beq j id with
        | true => rw [cond_true, Nat.eq_of_beq_eq_true hj]; exact hfin
        | false =>
          rw [cond_false]
          refine ih ?_
          have e1 : Nat.beq id j = false := by
            cases h2 : Nat.beq id j
            · rfl
            · rw [Nat.eq_of_beq_eq_true h2, Nat.beq_refl] at hj; cases hj
          simpa [e1] using hr

/-- a round is a round -/
theorem xRound_ok {N : Nat} {G : Ren → Prop} (hG : GOK N G) {sel : List Nat} {init : List Value} {asg : Option Nat → Env → World → QV → Prop} {bdy : Option Nat → Env → World → (Exit → World → Prop) → Prop} {xa xb : Ev → St → Option Res} {l : Nat} {a : At} {rec : Loop} {e : Ev} {r r' : Option Nat}
    {ps : List Nat} {ρb : Env} (hst : rec.state = .ready) (hpe : rec.pending = none) (hinit : sel.map ρb = init)
    (ha : ∀ m e0 e' ds' st st' ex ρ w (Q : QV), Sim m st w → ER m e0 ρ → LK G l a rec e sel init r r' m → xa e0 st = some (ex, e', ds', st') → (∀ m' ρ' D' w', m.le m' → ER m' e' ρ' → DR m' ds' D' → Sim m' st' w' → Q ex ρ' D' w') → asg (some a.blk) ρ w Q)
    (hb : ∀ m e0 e' ds' st st' ex ρ w (Q : Exit → World → Prop), Sim m st w → ER m e0 ρ → LK G l a rec e sel init r r' m → xb e0 st = some (ex, e', ds', st') → (∀ m' w', m.le m' → Sim m' st' w' → Q ex w') → bdy (some a.blk) ρ w Q)
    {m : Ren} {st st' : St} {w : World} {as as' : List Value} {v : Value} {K : Value → World → Prop} (hs : Sim m st w) (hg : LK G l a rec e sel init r r' m) (hv : VRs m as as') (h : xRound xa xb l ps (restr sel e) st as = some (v, st')) (hk : Out m st' v K) :
    roundV a.blk rec ps asg bdy ρb as' w K := by
  obtain ⟨s0, p0, f0, t0, pa0, as0, bo0, d0⟩ := rec
  cases (show s0 = .ready from hst)
  cases (show p0 = none from hpe)
  unfold xRound at h
  split at h <;> try (cases h; done)
  rename_i h0
  cases hlen : Nat.beq as.length ps.length with
  | false => rw [hlen, cond_false] at h; cases h
  | true =>
    rw [hlen, cond_true] at h
    split at h <;> try (cases h; done)
    rename_i e1 st1 h1
    split at h <;> try (cases h; done)
    rename_i h2
    split at h <;> try (cases h; done)
    rename_i ex e2 ds2 st2 h3
    split at h <;> try (cases h; done)
    rename_i j h4 h5
    cases h
    have hw0 := loop_get hs hg.at_ h0 hg.lp
    refine ⟨by rw [← hv.length]; exact Nat.eq_of_beq_eq_true hlen, hw0, ?_⟩
    have hsr := hg.sr
    rw [← hinit] at hsr
    refine ha m _ _ _ _ _ _ _ _ _ hs (putsE_ok hv hsr.er) hg h1 fun m1 ρ1 D1 w1 hm1 he1 hd1 hs1 => ?_
    have hg1 : LK G l a _ e sel init r r' m1 := (LK.gok hG ..).mono m m1 hm1.sub hg
    have hw1 := loop_get hs1 hg1.at_ h2 hg1.lp
    cases hd1
    refine ⟨rfl, rfl, hw1, ?_⟩
    refine hb m1 _ _ _ _ _ _ _ _ _ (loop_put hs1 hg1.at_ h2 hg1.lp) he1 hg1 h3 fun m2 w2 hm2 hs2 => ?_
    have hg2 : LK G l a _ e sel init r r' m2 := (LK.gok hG ..).mono m1 m2 hm2.sub hg1
    have hw2 := loop_get hs2 hg2.at_ h4 hg2.lp
    refine ⟨?_, ?_⟩
    · exact hw2
    · refine jump_ok h5 ?_
      exact hk m2 _ _ (hm1.trans hm2) (.bool _) (loop_put hs2 hg2.at_ h4 hg2.lp)

end Go.X

/-
  THE EXECUTOR, part 25: code is sound, whole; functions. Own work; generic in the program.
-/
set_option linter.unusedVariables false
set_option maxRecDepth 20000
namespace Go.X
open Go Go.V Go.RowKit

theorem vr_fn {m : Ren} {g : FuncId} {f c : Array Value} {y : Value} (h : VR m (.func (.func g) f c) y) : ∃ f' c' : List Value, y = .func (.func g) ⟨f'⟩ ⟨c'⟩ ∧ VRs m f.toList f' ∧ VRs m c.toList c' := by
  cases h with
  | fn h1 h2 => exact ⟨_, _, rfl, h1, h2⟩

theorem xCode_ok {P : Program} {N : Nat} {H : Hook} {Fs : Funs} (hH : HkOK P N H) (hF : FsOK P N Fs) {T : XT} :
    ∀ (n : Nat) (c : Code) {ctx : Ctx} {G : Ren → Prop} (hG : GOK N G) (hx : CtxOK P G ctx) {m : Ren} {e e' : Ev} {ds ds' : List Nat} {st st' : St} {ex : Exit} {r r' : Option Nat} {ρ : Env} {D : List Nat} {w : World} {Q : QV},
      okDr T c = true → Sim m st w → ER m e ρ → G m → DR m ds D → RR m r r' → xCode P N H Fs T n ctx r c e ds st = some (ex, e', ds', st') →
      (∀ m' ρ' D' w', m.le m' → ER m' e' ρ' → DR m' ds' D' → Sim m' st' w' → Q ex ρ' D' w') → codeV P T.t c r' ρ D w Q
  | 0, c, ctx, G, hG, hx, m, e, e', ds, ds', st, st', ex, r, r', ρ, D, w, Q, hok, hs, he, hg, hd, hr, h, hk => by cases h
  | n + 1, c, ctx, G, hG, hx, m, e, e', ds, ds', st, st', ex, r, r', ρ, D, w, Q, hok, hs, he, hg, hd, hr, h, hk => by
    have ih := @xCode_ok P N H Fs hH hF T n
    have hC : COk P G (callerOf H Fs ctx) := callerOf_ok hH hF hG hx
    unfold xCode at h
    cases c <;> simp only at h <;> try (cases h; done)
    case skip => cases h; exact hk m ρ D w (Ren.le.refl m) he hd hs
    case region id ops draw =>
      cases draw <;> simp only at h
      · split at h <;> try (cases h; done)
        rename_i e1 st1 h1
        cases h
        exact xOps_ok hC hG.mono hG.glob ops.toList hs he hg h1 fun m' ρ' w' hm he' hs' => hk m' ρ' D w' hm he' (hd.up hm) hs'
      · split at h <;> try (cases h; done)
        rename_i dp h0 hdp
        split at h <;> try (cases h; done)
        rename_i e1 st1 h1
        cases h
        unfold codeV
        simp only
        unfold drawV
        rw [h0]
        unfold okDr at hok
        rw [hdp] at hok
        exact xDraw_ok hC hG.mono hG.glob (by simpa using hok) hs he hg h1 fun m' ρ' w' hm he' hs' => hk m' ρ' D w' hm he' (hd.up hm) hs'
    case seq a b =>
      unfold okDr at hok
      obtain ⟨hoa, hob⟩ := Bool.and_eq_true_iff.1 hok
      unfold codeV
      split at h
      · rename_i e1 ds1 st1 h1
        split at h
        · rename_i hj
          simp only [hj]
          refine ih a hG hx hoa hs he hg hd hr h1 fun m1 ρ1 D1 w1 hm1 he1 hd1 hs1 => ?_
          exact ih b hG hx hob hs1 he1 (hG.mono _ _ hm1.sub hg) hd1 (hr.up hm1.sub) h fun m2 ρ2 D2 w2 hm2 he2 hd2 hs2 => hk m2 ρ2 D2 w2 (hm1.trans hm2) he2 hd2 hs2
        · rename_i sel hj
          simp only [hj]
          refine ⟨fun vs D1 w1 => ∃ m1, m.le m1 ∧ SR m1 e1 sel vs ∧ DR m1 ds1 D1 ∧ Sim m1 st1 w1, ?_, fun ρ1 D1 w1 ⟨m1, hm1, hr1, hd1, hs1⟩ => ?_⟩
          · exact ih a hG hx hoa hs he hg hd hr h1 fun m1 ρ1 D1 w1 hm1 he1 hd1 hs1 => ⟨m1, hm1, SR.of he1 sel, hd1, hs1⟩
          · exact ih b hG hx hob hs1 hr1.er (hG.mono _ _ hm1.sub hg) hd1 (hr.up hm1.sub) h fun m2 ρ2 D2 w2 hm2 he2 hd2 hs2 => hk m2 ρ2 D2 w2 (hm1.trans hm2) he2 hd2 hs2
      · rename_i hx'
        have hne : ex ≠ .normal := by
          intro e0
          subst e0
          exact hx' _ _ _ h
        split
        · refine ih a hG hx hoa hs he hg hd hr h fun m1 ρ1 D1 w1 hm1 he1 hd1 hs1 => ?_
          cases ex <;> first | exact absurd rfl hne | exact hk m1 ρ1 D1 w1 hm1 he1 hd1 hs1
        · refine ⟨fun _ _ _ => False, ?_, fun _ _ _ h => h.elim⟩
          refine ih a hG hx hoa hs he hg hd hr h fun m1 ρ1 D1 w1 hm1 he1 hd1 hs1 => ?_
          cases ex <;> first | exact absurd rfl hne | exact hk m1 ρ1 D1 w1 hm1 he1 hd1 hs1
    case cond c a b =>
      unfold okDr at hok
      obtain ⟨hoa, hob⟩ := Bool.and_eq_true_iff.1 hok
      split at h <;> try (cases h; done)
      rename_i t ht
      have e1 := vr_bool (evX_ok he (hG.glob m hg) ht)
      unfold codeV
      rw [e1]
      show (if t = true then _ else _)
      cases t
      · exact ih b hG hx hob hs he hg hd hr h hk
      · exact ih a hG hx hoa hs he hg hd hr h hk
    case block id c =>
      unfold okDr at hok
      unfold codeV
      split at h
      · rename_i i e1 ds1 st1 h1
        refine ih c hG hx hok hs he hg hd hr h1 fun m1 ρ1 D1 w1 hm1 he1 hd1 hs1 => ?_
        show (bif Nat.beq i id then _ else _)
        cases hb : Nat.beq i id with
        | true => rw [hb] at h; cases h; exact hk m1 ρ1 D1 w1 hm1 he1 hd1 hs1
        | false => rw [hb] at h; cases h; exact hk m1 ρ1 D1 w1 hm1 he1 hd1 hs1
      · rename_i hx'
        refine ih c hG hx hok hs he hg hd hr h fun m1 ρ1 D1 w1 hm1 he1 hd1 hs1 => ?_
        cases ex <;> first | exact absurd h (hx' _ _ _ _) | exact hk m1 ρ1 D1 w1 hm1 he1 hd1 hs1
    case exit id => cases h; exact hk m ρ D w (Ren.le.refl m) he hd hs
    case ret => cases h; exact hk m ρ D w (Ren.le.refl m) he hd hs
    case label l => cases h; exact hk m ρ D w (Ren.le.refl m) he hd hs
    case scope c =>
      unfold okDr at hok
      unfold codeV
      split at h
      · cases h
      · rename_i hx'
        refine ih c hG hx hok hs he hg hd hr h fun m1 ρ1 D1 w1 hm1 he1 hd1 hs1 => ?_
        cases ex <;> first | exact absurd h (hx' _ _ _ _) | exact hk m1 ρ1 D1 w1 hm1 he1 hd1 hs1
    case loop c =>
      unfold okDr at hok
      have hl : xCode P N H Fs T (n + 1) ctx r (.loop c) e ds st = some (ex, e', ds', st') := by unfold xCode; exact h
      unfold codeV
      generalize hsel : (V.look T.t.sel (V.keyOf c)).getD [] = sel
      refine loop_of (fun k vs D1 w1 => ∃ m1 e1 ds1 st1, m.le m1 ∧ SR m1 e1 sel vs ∧ DR m1 ds1 D1 ∧ Sim m1 st1 w1 ∧ k ≤ n + 1 ∧ xCode P N H Fs T k ctx r (.loop c) e1 ds1 st1 = some (ex, e', ds', st'))
        ⟨n + 1, m, e, ds, st, Ren.le.refl m, SR.of he sel, hd, hs, Nat.le_refl _, hl⟩ fun k ρ1 D1 w1 R hJ hR => ?_
      obtain ⟨m1, e1, ds1, st1, hm1, hr1, hd1, hs1, hk1, hx1⟩ := hJ
      match k, hk1, hx1 with
      | 0, _, hx1 => cases hx1
      | k + 1, hk1, hx1 =>
        unfold xCode at hx1
        simp only [hsel] at hx1
        split at hx1
        · rename_i e2 ds2 st2 h2
          refine xCode_ok hH hF k c hG hx hok hs1 hr1.er (hG.mono _ _ hm1.sub hg) hd1 (hr.up hm1.sub) h2 fun m2 ρ2 D2 w2 hm2 he2 hd2 hs2 => ?_
          exact hR _ _ _ k (Nat.lt_succ_self k) ⟨m2, e2, ds2, st2, hm1.trans hm2, SR.of he2 sel, hd2, hs2, by omega, hx1⟩
        · rename_i hne
          refine xCode_ok hH hF k c hG hx hok hs1 hr1.er (hG.mono _ _ hm1.sub hg) hd1 (hr.up hm1.sub) hx1 fun m2 ρ2 D2 w2 hm2 he2 hd2 hs2 => ?_
          cases ex <;> first | exact absurd hx1 (hne _ _ _) | exact hk m2 ρ2 D2 w2 (hm1.trans hm2) he2 hd2 hs2
    case rangeFunc f ps a b =>
      unfold okDr at hok
      obtain ⟨hoa, hob⟩ := Bool.and_eq_true_iff.1 hok
      split at h <;> try (cases h; done)
      rename_i g first cap hfv
      unfold codeV
      generalize hsel : (V.look T.t.sel (V.keyOf (.rangeFunc f ps a b))).getD [] = sel at *
      obtain ⟨f', c', hev, hf1, hc1⟩ := vr_fn (evX_ok he (hG.glob m hg) hfv)
      unfold rangeF
      -- what all loops share
      have key : ∀ (l : Nat) (al : At) (rec : Loop) (m1 : Ren) (st1 : St) (w1 : World) (ds1 : List Nat) (D1 : List Nat) (ρb : Env), m.le m1 → m1 l = some al → m1.lp al.blk = some rec → Sim m1 st1 w1 → rec.state = .ready → rec.pending = none → sel.map ρb = sel.map ρ → DR m1 ds1 D1 →
          (∀ args W K, roundV al.blk rec ps.toList (fun r' ρ' w' Q' => codeV P T.t a r' ρ' [] w' Q') (fun r' ρ' w' Q' => codeV P T.t b r' ρ' [] w' fun e _ _ w'' => Q' e w'') ρb args W K → Round P al.blk args.toArray W K) →
          ∀ v st2, Fs ((l, xRound (fun e s => xCode P N H Fs T n ctx (some l) a e [] s) (fun e s => xCode P N H Fs T n ctx (some l) b e [] s) l ps.toList (restr sel e)) :: ctx) st1 g (first.toList ++ [.func (.yield l) #[] #[]] ++ cap.toList) = some (v, st2) →
          xEnd b l e ds1 st2 = some (ex, e', ds', st') →
          vRetV P (ev ρ f) [.func (.yield al.blk) #[] #[]] w1 fun _ w2 => endV al.blk rec w2 (fun w' => Q .normal ρ D1 w') (fun w' => onlyIf (hasRet b) (fun ds' w' => Q .ret ρ ds' w') D1 w') (fun id w' => exV ((exitsOf b).map fun j => (j, fun ds' w' => Q (.exit j) ρ ds' w')) D1 id w') := by
        intro l al rec m1 st1 w1 ds1 D1 ρb hle hal hlp hs1 hst hpe hin hd1 hround v st2 hF2 hend
        rw [hev]
        unfold vRetV
        simp only
        have hlk := LK.gok hG l al rec e sel (sel.map ρ) r r'
        have hlk1 : LK G l al rec e sel (sel.map ρ) r r' m1 := ⟨hG.mono _ _ hle.sub hg, hal, hlp, (SR.of he sel).up hle.sub⟩
        refine hF _ _ hlk ?_ m1 st1 st2 w1 g _ _ v _ hs1 hlk1 ((hf1.up hle |>.append (.cons (.yld hal) .nil)).append (hc1.up hle)) hF2 fun m2 v' w2 hm2 hv2 hs2 => ?_
        · intro l2 rd hmem m2 s2 s3 w2 as as' v2 K hs2 hlk2 hv2 hrd hk2
          rcases List.mem_cons.1 hmem with e1 | hmem
          · cases e1
            refine ⟨al, hlk2.at_, hround as' w2 K ?_⟩
            refine xRound_ok hG hst hpe hin (fun m3 e3 e4 ds4 st3 st4 ex4 ρ3 w3 Q3 hs3 he3 hlk3 hx3 hk3 => ?_) (fun m3 e3 e4 ds4 st3 st4 ex4 ρ3 w3 Q3 hs3 he3 hlk3 hx3 hk3 => ?_) hs2 hlk2 hv2 hrd hk2
            · exact ih a hG hx hoa hs3 he3 hlk3.g .nil (show RR m3 (some l) (some al.blk) from ⟨al, hlk3.at_, rfl⟩) hx3 hk3
            · exact ih b hG hx hob hs3 he3 hlk3.g .nil (show RR m3 (some l) (some al.blk) from ⟨al, hlk3.at_, rfl⟩) hx3 fun m4 ρ4 D4 w4 hm4 he4 hd4 hs4 => hk3 m4 w4 hm4 hs4
          · exact hx l2 rd hmem m2 s2 s3 w2 as as' v2 K hs2 hlk2.g hv2 hrd hk2
        · exact xEnd_ok hs2 (hm2.at_ _ _ hal) (hm2.lp _ _ hlp) hend (hd1.up hm2) (he.up (hle.trans hm2)) fun m3 ρ3 D3 w3 hm3 => hk m3 ρ3 D3 w3 ((hle.trans hm2).trans hm3)
      cases r with
      | none =>
        simp only at h
        cases r' with
        | some _ => exact hr.elim
        | none =>
          split at h <;> try (cases h; done)
          rename_i v st2 hF2
          simp only
          intro rec ρb hst hpe hin hround
          obtain ⟨q1, q2⟩ := hs.new (o := .deferred (some [])) (k := .defer) (off := 0) (extra := 0) trivial
          have hsz : (w.alloc (.deferred (some []))).heap.size = w.heap.size + 1 := by show (w.heap.push _).size = _; simp
          obtain ⟨q3, q4⟩ := q2.newG (o := .loop rec) (k := .loop .ready none) (off := 0) (extra := 0) (lp := fun c => if c = w.heap.size + 1 then some rec else m.lp c)
            (fun c r hc => by
              show (if _ then _ else _) = _
              have : c < w.heap.size := hs.lpl c r hc
              rw [if_neg (by omega)]
              exact hc)
            (fun c r hc => by
              rw [hsz]
              have hc' : (if c = w.heap.size + 1 then some rec else m.lp c) = some r := hc
              split at hc'
              · omega
              · have : c < w.heap.size := hs.lpl c r hc'
                omega)
            ⟨rec, by rw [hsz]; exact if_pos rfl, by rw [← hst, ← hpe]⟩
          rw [hsz] at q3 q4
          refine key (st.next + 1) ⟨w.heap.size + 1, 0, 0⟩ rec _ _ _ (st.next :: ds) (w.heap.size :: D) ρb (q1.trans q3) (if_pos rfl) (if_pos rfl) q4 hst hpe hin ?_ hround v st2 hF2 h
          refine .cons (a := ⟨w.heap.size, 0, 0⟩) ?_ rfl (hd.up (q1.trans q3))
          exact q3.at_ _ _ (Ren.add_same _ _ _)
      | some l0 =>
        simp only at h
        cases r' with
        | none => exact hr.elim
        | some c0 =>
          split at h <;> try (cases h; done)
          rename_i s0 pe0 hl0
          split at h <;> try (cases h; done)
          rename_i v st2 hF2
          simp only
          obtain ⟨al0, g1, g2⟩ := hr
          refine ⟨?_, fun rec ρb hst hpe hin hround => ?_⟩
          · obtain ⟨a', o, h1, h2, h3⟩ := hs.obj l0 _ hl0 (by intro e; cases e)
            rw [g1] at h1
            cases h1
            unfold ObjR at h3
            split at h3
            · rename_i e; cases e
            · rename_i e; cases e
            · rename_i e; cases e
            · rename_i r0 _ _ e
              exact ⟨r0, by rw [← g2]; exact h2⟩
            · rename_i e; cases e
            · rename_i e; cases e
            · rename_i e; cases e
            · rename_i e; cases e
            · exact h3.elim
          · obtain ⟨q3, q4⟩ := hs.newG (o := .loop rec) (k := .loop .ready none) (off := 0) (extra := 0) (lp := fun c => if c = w.heap.size then some rec else m.lp c)
              (fun c r hc => by
                show (if _ then _ else _) = _
                have : c < w.heap.size := hs.lpl c r hc
                rw [if_neg (by omega)]
                exact hc)
              (fun c r hc => by
                have hc' : (if c = w.heap.size then some rec else m.lp c) = some r := hc
                split at hc'
                · omega
                · have : c < w.heap.size := hs.lpl c r hc'
                  omega)
              ⟨rec, if_pos rfl, by rw [← hst, ← hpe]⟩
            exact key st.next ⟨w.heap.size, 0, 0⟩ rec _ _ _ ds D ρb q3 (if_pos rfl) (if_pos rfl) q4 hst hpe hin (hd.up q3) hround v st2 hF2 h
  termination_by n => n

/-! ### Functions -/

/-- behind a function's code: its rows of what was put off -/
noncomputable def xLeave : List Nat → St → Option St
  | [], st => some st
  | d :: ds, st => match st.heap.get d with
    | some .defer => xLeave ds (st.put d .dead)
    | _ => none

theorem xLeave_ok {m : Ren} {K : World → Prop} : ∀ {ds D : List Nat} {st st' : St} {w : World}, Sim m st w → DR m ds D → xLeave ds st = some st' → (∀ w', Sim m st' w' → K w') → leaveV D w K
  | [], _, st, st', w, hs, .nil, h, hk => by
    cases h
    exact hk w hs
  | d :: ds, _, st, st', w, hs, .cons hm hc hd, h, hk => by
    unfold xLeave at h
    split at h <;> try (cases h; done)
    rename_i hb
    obtain ⟨a', o, h1, h2, h3⟩ := hs.obj d _ hb (by intro e; cases e)
    rw [hm] at h1
    cases h1
    subst hc
    unfold ObjR at h3
    split at h3
    · rename_i e; cases e
    · rename_i e; cases e
    · exact ⟨h2, xLeave_ok (hs.put hb (by intro e; cases e) hm (o' := .deferred none) (k' := .dead) (by unfold ObjR; split <;> first | trivial | (rename_i e; cases e))) hd h hk⟩
    · rename_i e; cases e
    · rename_i e; cases e
    · rename_i e; cases e
    · rename_i e; cases e
    · rename_i e; cases e
    · exact h3.elim

/-- what is told of a program's functions: good ones may be entered -/
structure Told (P : Program) (good : Nat → Bool) (T : Nat → XT) : Prop where
  mixed : P.follows .mixedOrders = true
  ok : ∀ g fn, good g = true → P.funcs[g]? = some fn → Enters P g ∧ okF (T g).t fn 0 = true ∧ (∀ c, fn.body = some c → okDr (T g) c = true)

noncomputable def xFun (P : Program) (N : Nat) (good : Nat → Bool) (T : Nat → XT) (H : Hook) (fuel : Nat) (Fs : Funs) : Funs := fun ctx st g as =>
  bif good g then match P.funcs[g]? with
    | some fn => match fn.body with
      | some c => bif Nat.ble as.length fn.ntmps then match xCode P N H Fs (T g) fuel ctx none c (envX 0 as) [] st with
        | some (.normal, e, ds, st1) => match xLeave ds st1 with
          | some st2 => match xRes P st2 e fn.results.toList [] with
            | some v => some (v, st2)
            | none => none
          | none => none
        | some (.ret, e, ds, st1) => match xLeave ds st1 with
          | some st2 => match xRes P st2 e fn.results.toList [] with
            | some v => some (v, st2)
            | none => none
          | none => none
        | _ => none
        else none
      | none => none
    | none => none
  else none

theorem xFun_ok {P : Program} {N : Nat} {good : Nat → Bool} {T : Nat → XT} {H : Hook} {fuel : Nat} {Fs : Funs} (ht : Told P good T) (hH : HkOK P N H) (hF : FsOK P N Fs) : FsOK P N (xFun P N good T H fuel Fs) := by
  intro ctx G hG hx m st st' w g as as' v K hs hg ha h hk
  unfold xFun at h
  cases hgood : good g with
  | false => rw [hgood, cond_false] at h; cases h
  | true =>
    rw [hgood, cond_true] at h
    split at h <;> try (cases h; done)
    rename_i fn hfn
    split at h <;> try (cases h; done)
    rename_i c hc
    cases hle : Nat.ble as.length fn.ntmps with
    | false => rw [hle, cond_false] at h; cases h
    | true =>
      rw [hle, cond_true] at h
      obtain ⟨hE, hok, hdr⟩ := ht.ok g fn hgood hfn
      have hok' : okF (T g).t fn as'.length = true := by
        unfold okF at hok ⊢
        rw [hc] at hok ⊢
        simp only [Bool.and_eq_true] at hok ⊢
        exact ⟨hok.1, by rw [← ha.length]; exact hle⟩
      refine enter_sound hfn hE ht.mixed hok' ?_
      unfold enterV
      rw [hc]
      simp only
      have fin : ∀ {e1 : Ev} {ds1 : List Nat} {st1 st2 : St} {m1 : Ren} {ρ1 : Env} {D1 : List Nat} {w1 : World}, m.le m1 → xLeave ds1 st1 = some st2 → xRes P st2 e1 fn.results.toList [] = some v → st' = st2 → ER m1 e1 ρ1 → DR m1 ds1 D1 → Sim m1 st1 w1 → finV P fn ρ1 D1 w1 K := by
        intro e1 ds1 st1 st2 m1 ρ1 D1 w1 hm1 hl hres hst he1 hd1 hs1
        subst hst
        unfold finV
        exact xLeave_ok hs1 hd1 hl fun w2 hs2 => xRes_ok hs2 he1 fn.results.toList .nil hres fun v' hv' => hk m1 _ _ hm1 hv' hs2
      split at h
      · rename_i e1 ds1 st1 h1
        split at h <;> try (cases h; done)
        rename_i st2 hl
        split at h <;> try (cases h; done)
        rename_i u hu
        cases h
        exact xCode_ok hH hF fuel c hG hx (hdr c hc) hs (envX_ok ha) hg .nil (show RR m none none from trivial) h1 fun m1 ρ1 D1 w1 hm1 he1 hd1 hs1 => fin hm1 hl hu rfl he1 hd1 hs1
      · rename_i e1 ds1 st1 h1
        split at h <;> try (cases h; done)
        rename_i st2 hl
        split at h <;> try (cases h; done)
        rename_i u hu
        cases h
        exact xCode_ok hH hF fuel c hG hx (hdr c hc) hs (envX_ok ha) hg .nil (show RR m none none from trivial) h1 fun m1 ρ1 D1 w1 hm1 he1 hd1 hs1 => fin hm1 hl hu rfl he1 hd1 hs1
      · cases h

/-- functions, of so many calls within one another -/
noncomputable def funs (P : Program) (N : Nat) (good : Nat → Bool) (T : Nat → XT) (H : Hook) (fuel : Nat) : Nat → Funs
  | 0 => fun _ _ _ _ => none
  | n + 1 => xFun P N good T H fuel (funs P N good T H fuel n)

theorem funs_ok {P : Program} {N : Nat} {good : Nat → Bool} {T : Nat → XT} {H : Hook} {fuel : Nat} (ht : Told P good T) (hH : HkOK P N H) : ∀ n, FsOK P N (funs P N good T H fuel n)
  | 0 => fun ctx G hG hx m st st' w g as as' v K hs hg ha h hk => by cases h
  | n + 1 => xFun_ok ht hH (funs_ok ht hH n)

end Go.X

/-
  THE EXECUTOR, part 26: functions of the library that answer in place. Own work; generic in the program.
-/
set_option linter.unusedVariables false
set_option maxRecDepth 20000
namespace Go.X
open Go Go.V Go.RowKit

/-- the functions that answer in place: their numbers -/
structure Ins where
  indexByte : Nat
  cmpString : Nat
  noEscape : Nat

/-- they are the ones of their names -/
def InsOK (P : Program) (g : Nat) (e : Array Value → Sem Value) : Prop :=
  ∃ fn, P.funcs[g]? = some fn ∧ (fn.name == "runtime.NumGoroutine") = false ∧ fn.body.isNone = true ∧ Extern.findNext fn = none ∧ Extern.find fn = some e

structure InsTold (P : Program) (I : Ins) : Prop where
  indexByte : InsOK P I.indexByte Extern.BytealgIndexByte.indexByte
  cmpString : InsOK P I.cmpString Extern.BytealgCompare.compare
  noEscape : InsOK P I.noEscape Extern.AbiNoEscape.same

theorem InsOK.call {P : Program} {g : Nat} {e : Array Value → Sem Value} (h : InsOK P g e) {args : Array Value} {w w' : World} {v : Value} {K : Value → World → Prop} (hr : (e args).run P w = .ok v w') (hk : K v w') : CallK P g args w K := by
  obtain ⟨fn, h1, h2, h3, h4, h5⟩ := h
  refine .inr ⟨v, w', ?_, hk⟩
  rw [run_callFunc_extern h1 h2 h3 h4 h5, hr]
  rfl

noncomputable def hookOf (I : Ins) : Hook := fun st g as =>
  bif Nat.beq g I.indexByte then match as with
    | [.string s, .int .u8 c] => some (.int .i64 (firstIdx s c.toNat.toUInt8), st)
    | _ => none
  else bif Nat.beq g I.cmpString then match as with
    | [.string a, .string b] => some (.int .i64 (Extern.BytealgCompare.cmp a b), st)
    | _ => none
  else bif Nat.beq g I.noEscape then match as with
    | [x] => some (x, st)
    | _ => none
  else none

theorem hookOf_ok {P : Program} {N : Nat} {I : Ins} (hI : InsTold P I) : HkOK P N (hookOf I) := by
  intro m st st' w g as as' v K hs hg ha h hk
  unfold hookOf at h
  cases h1 : Nat.beq g I.indexByte with
  | true =>
    rw [h1, cond_true] at h
    split at h <;> try (cases h; done)
    rename_i s c
    cases h
    cases ha with
    | cons hx hr =>
      cases hr with
      | cons hy hn =>
        cases hn
        cases hx
        cases hy
        rw [Nat.eq_of_beq_eq_true h1]
        exact hI.indexByte.call (run_indexByte_string _ _ w) (hk m _ _ (Ren.le.refl m) (.int _ _) hs)
  | false =>
    rw [h1, cond_false] at h
    cases h2 : Nat.beq g I.cmpString with
    | true =>
      rw [h2, cond_true] at h
      split at h <;> try (cases h; done)
      rename_i a b
      cases h
      cases ha with
      | cons hx hr =>
        cases hr with
        | cons hy hn =>
          cases hn
          cases hx
          cases hy
          rw [Nat.eq_of_beq_eq_true h2]
          exact hI.cmpString.call (v := .int .i64 (Extern.BytealgCompare.cmp a b)) (w' := w) rfl (hk m _ _ (Ren.le.refl m) (.int _ _) hs)
    | false =>
      rw [h2, cond_false] at h
      cases h3 : Nat.beq g I.noEscape with
      | false => rw [h3, cond_false] at h; cases h
      | true =>
        rw [h3, cond_true] at h
        split at h <;> try (cases h; done)
        rename_i x
        cases h
        cases ha with
        | cons hx hr =>
          cases hr
          rw [Nat.eq_of_beq_eq_true h3]
          exact hI.noEscape.call (w' := w) rfl (hk m _ _ (Ren.le.refl m) hx hs)

end Go.X

/-
  THE EXECUTOR, part 27: cuts. What is no longer of use may be dropped from the memory; a call that was run once is kept, with the memory before it and behind it. Own work; generic in the program.
-/
set_option linter.unusedVariables false
set_option maxRecDepth 20000
namespace Go.X
open Go Go.V Go.RowKit

/-- equal blocks, of those that may be kept -/
def kdEq (k k' : IntKind) : Bool := decide (k = k')

def plEq (p q : Pl) : Bool := (p.plain == q.plain) && (p.ty == q.ty) && (p.z == q.z) && (p.ex == q.ex)

def ksEq : List (Int × Value) → List (Int × Value) → Bool
  | [], [] => true
  | (n, x) :: r, (m, y) :: s => (n == m) && veqA 1000 x y && ksEq r s
  | _, _ => false

def blkEq : Blk → Blk → Bool
  | .cells p n cs, .cells q m ds => plEq p q && Nat.beq n m && veqL 100000 cs ds
  | .mapI k ks cl none, .mapI k' ks' cl' none => kdEq k k' && ksEq ks ks' && Nat.beq cl cl'
  | .dead, .dead => true
  | _, _ => false

theorem ksEq_ok : ∀ {r s : List (Int × Value)}, ksEq r s = true → r = s
  | [], [], _ => rfl
  | [], _ :: _, h => by cases h
  | _ :: _, [], h => by cases h
  | (n, x) :: r, (m, y) :: s, h => by
    unfold ksEq at h
    simp only [Bool.and_eq_true, beq_iff_eq] at h
    obtain ⟨⟨h1, h2⟩, h3⟩ := h
    rw [h1, veqA_ok h2, ksEq_ok h3]

theorem plEq_ok {p q : Pl} (h : plEq p q = true) : p = q := by
  unfold plEq at h
  simp only [Bool.and_eq_true, beq_iff_eq] at h
  obtain ⟨⟨⟨h1, h2⟩, h3⟩, h4⟩ := h
  cases p; cases q
  simp_all

theorem blkEq_ok {k k' : Blk} (h : blkEq k k' = true) : k = k' := by
  unfold blkEq at h
  split at h
  · simp only [Bool.and_eq_true] at h
    obtain ⟨⟨h1, h2⟩, h3⟩ := h
    rw [plEq_ok h1, Nat.eq_of_beq_eq_true h2, veqL_ok h3]
  · simp only [Bool.and_eq_true] at h
    obtain ⟨⟨h1, h2⟩, h3⟩ := h
    rw [of_decide_eq_true h1, ksEq_ok h2, Nat.eq_of_beq_eq_true h3]
  · rfl
  · cases h

def trLe : Tr Blk → Tr Blk → Bool
  | .leaf, _ => true
  | .node l none r, .node l' _ r' => trLe l l' && trLe r r'
  | .node l (some k) r, .node l' (some k') r' => blkEq k k' && (trLe l l' && trLe r r')
  | _, _ => false

theorem trLe_ok : ∀ {t t' : Tr Blk}, trLe t t' = true → ∀ b k, t.get b = some k → t'.get b = some k
  | .leaf, _, _, b, k, hb => by rw [get_leaf] at hb; cases hb
  | .node l none r, .leaf, h, b, k, hb => by cases h
  | .node l (some _) r, .leaf, h, b, k, hb => by cases h
  | .node l none r, .node l' v' r', h, b, k, hb => by
    unfold trLe at h
    obtain ⟨h1, h2⟩ := Bool.and_eq_true_iff.1 h
    cases b with
    | zero => rw [get_zero] at hb; cases hb
    | succ b =>
      rw [get_succ] at hb ⊢
      split at hb
      · rename_i e; rw [if_pos e]; exact trLe_ok h2 _ _ hb
      · rename_i e; rw [if_neg e]; exact trLe_ok h1 _ _ hb
  | .node l (some x) r, .node l' none r', h, b, k, hb => by cases h
  | .node l (some x) r, .node l' (some x') r', h, b, k, hb => by
    unfold trLe at h
    obtain ⟨h0, h⟩ := Bool.and_eq_true_iff.1 h
    obtain ⟨h1, h2⟩ := Bool.and_eq_true_iff.1 h
    cases b with
    | zero => rw [get_zero] at hb ⊢; rw [← blkEq_ok h0]; exact hb
    | succ b =>
      rw [get_succ] at hb ⊢
      split at hb
      · rename_i e; rw [if_pos e]; exact trLe_ok h2 _ _ hb
      · rename_i e; rw [if_neg e]; exact trLe_ok h1 _ _ hb

def stLe (s s' : St) : Bool := Nat.beq s.next s'.next && trLe s.heap s'.heap

theorem stLe_ok {s s' : St} (h : stLe s s' = true) {m : Ren} {w : World} (hs : Sim m s' w) : Sim m s w := by
  obtain ⟨h1, h2⟩ := Bool.and_eq_true_iff.1 h
  have hn := Nat.eq_of_beq_eq_true h1
  have hg := trLe_ok h2
  refine ⟨fun b k hb hd => hs.obj b k (hg b k hb) hd, fun b b' k k' a a' hb hd hb' hd' => hs.inj b b' k k' a a' (hg b k hb) hd (hg b' k' hb') hd', fun b hb => ?_, hs.lt, hs.fr, fun b k a hb => hs.own b k a (hg b k hb), fun b hb => by rw [hn]; exact hs.res b hb, hs.lpl⟩
  rw [hn] at hb
  refine ⟨(hs.fresh b hb).1, ?_⟩
  cases e : s.heap.get b with
  | none => rfl
  | some k => rw [← (hs.fresh b hb).2, hg b k e]

/-- memories as they are printed -/
noncomputable def mkT (l : List (Nat × Blk)) : Tr Blk := List.rec (motive := fun _ => Tr Blk) .leaf (fun p _ t => t.set p.2 p.1) l
def lI (n : Int) : Value := .int .i64 n
def lP (b o : Nat) : Value := .pointer (some ⟨b, o, none⟩)
def lS (b o n k : Nat) : Value := .slice (some ⟨b, o, none⟩) n k
def lM (b : Nat) : Value := .map (some b)
def lA (l : List Value) : Value := .agg ⟨l⟩
def lT (l : List Value) : Value := .tuple ⟨l⟩
def lF (g : Nat) (f c : List Value) : Value := .func (.func g) ⟨f⟩ ⟨c⟩
def lX (l : List UInt8) : Value := .string ⟨⟨l⟩⟩
def lNS : Value := .slice none 0 0
def lNP : Value := .pointer none
def lNM : Value := .map none
def lB (b t es : Nat) (cs : List Value) : Nat × Blk := (b, .cells ⟨true, some t, true, true⟩ es cs)
def lC (b : Nat) (p : Bool) (t : Option Nat) (z x : Bool) (es : Nat) (cs : List Value) : Nat × Blk := (b, .cells ⟨p, t, z, x⟩ es cs)
def lK (b : Nat) (k : IntKind) (ks : List (Int × Value)) (cl : Nat) : Nat × Blk := (b, .mapI k ks cl none)

/-- a call that was run: the memory before it, its arguments; its answer, the memory behind it -/
structure Mem where
  g : Nat
  as : List Value
  pre : St
  v : Value
  post : St

def MemOK (P : Program) (N : Nat) (M : Mem) : Prop := ∀ m w as' (K : Value → World → Prop), Sim m M.pre w → Glob N m → VRs m M.as as' → Out m M.post M.v K → Ret P M.g as'.toArray w K

noncomputable def memT (Fs : Funs) (M : Mem) : Bool :=
  match Fs [] M.pre M.g M.as with
  | some (v, st) => veqA 1000 M.v v && stLe M.post st
  | none => false

theorem mem_ok {P : Program} {N : Nat} {Fs : Funs} (hF : FsOK P N Fs) {M : Mem} (h : memT Fs M = true) : MemOK P N M := by
  intro m w as' K hs hg ha hk
  unfold memT at h
  split at h <;> try (cases h; done)
  rename_i v st hr
  obtain ⟨h1, h2⟩ := Bool.and_eq_true_iff.1 h
  refine hF [] (Glob N) ⟨fun m m' hm hg g hlt => hm.at_ _ _ (hg g hlt), fun m hg => hg⟩ (fun l rd hm => by cases hm) m _ _ w _ _ _ v K hs hg ha hr ?_
  rw [veqA_ok h1] at hk
  exact fun m' v' w' hm hv hs' => hk m' v' w' hm hv (stLe_ok h2 hs')

noncomputable def memo : List Mem → Hook
  | [] => fun _ _ _ => none
  | M :: r => fun st g as => bif Nat.beq g M.g && (Nat.beq st.next M.pre.next && (veqL 1000 M.as as && stLe M.pre st)) then some (M.v, M.post) else memo r st g as

theorem memo_ok {P : Program} {N : Nat} : ∀ {l : List Mem}, (∀ M ∈ l, MemOK P N M) → HkOK P N (memo l)
  | [], _ => fun m st st' w g as as' v K hs hg ha h hk => by cases h
  | M :: r, hl => fun m st st' w g as as' v K hs hg ha h hk => by
    have h : (bif Nat.beq g M.g && (Nat.beq st.next M.pre.next && (veqL 1000 M.as as && stLe M.pre st)) then some (M.v, M.post) else memo r st g as) = some (v, st') := h
    cases hb : (Nat.beq g M.g && (Nat.beq st.next M.pre.next && (veqL 1000 M.as as && stLe M.pre st))) with
    | false => rw [hb, cond_false] at h; exact memo_ok (fun x hx => hl x (List.mem_cons_of_mem _ hx)) m st st' w g as as' v K hs hg ha h hk
    | true =>
      rw [hb, cond_true] at h
      cases h
      obtain ⟨h1, h2⟩ := Bool.and_eq_true_iff.1 hb
      obtain ⟨h2, h3⟩ := Bool.and_eq_true_iff.1 h2
      obtain ⟨h3, h4⟩ := Bool.and_eq_true_iff.1 h3
      rw [Nat.eq_of_beq_eq_true h1]
      rw [← veqL_ok h3] at ha
      exact .inl (hl M List.mem_cons_self m w as' K (stLe_ok h4 hs) hg ha hk)

noncomputable def orH (a b : Hook) : Hook := fun st g as => match a st g as with
  | some r => some r
  | none => b st g as

theorem orH_ok {P : Program} {N : Nat} {a b : Hook} (ha : HkOK P N a) (hb : HkOK P N b) : HkOK P N (orH a b) := by
  intro m st st' w g as as' v K hs hg hv h hk
  unfold orH at h
  split at h
  · rename_i r hr
    cases h
    exact ha m st st' w g as as' v K hs hg hv hr hk
  · exact hb m st st' w g as as' v K hs hg hv h hk

end Go.X

/-
  THE EXECUTOR, part 28: what must be told of a program's functions. Own work; generic in the program.
-/
set_option linter.unusedVariables false
set_option maxRecDepth 20000
namespace Go.X
open Go Go.V Go.RowKit

def AllE (P : Program) : List Nat → Prop
  | [] => True
  | g :: r => Enters P g ∧ AllE P r

theorem AllE.of {P : Program} : ∀ {l : List Nat}, AllE P l → ∀ g ∈ l, Enters P g
  | [], _, g, h => by cases h
  | x :: r, ⟨h1, h2⟩, g, h => by
    rcases List.mem_cons.1 h with e | e
    · rw [e]; exact h1
    · exact AllE.of h2 g e

noncomputable def chk1 (P : Program) (T : Nat → XT) (g : Nat) : Bool :=
  match P.funcs[g]? with
  | some fn => okF (T g).t fn 0 && (match fn.body with
    | some c => okDr (T g) c
    | none => true)
  | none => true

noncomputable def chkL (P : Program) (T : Nat → XT) : List Nat → Bool
  | [] => true
  | g :: r => chk1 P T g && chkL P T r

theorem chkL_ok {P : Program} {T : Nat → XT} : ∀ {l : List Nat}, chkL P T l = true → ∀ g ∈ l, chk1 P T g = true
  | [], _, g, h => by cases h
  | x :: r, hc, g, h => by
    obtain ⟨h1, h2⟩ := Bool.and_eq_true_iff.1 hc
    rcases List.mem_cons.1 h with e | e
    · rw [e]; exact h1
    · exact chkL_ok h2 g e

def goodL (l : List Nat) (g : Nat) : Bool := l.any (Nat.beq g)

theorem told_of {P : Program} {T : Nat → XT} {l : List Nat} (hm : P.follows .mixedOrders = true) (he : AllE P l) (hc : chkL P T l = true) : Told P (goodL l) T := by
  refine ⟨hm, fun g fn hg hf => ?_⟩
  obtain ⟨x, hx, hb⟩ := List.any_eq_true.1 hg
  rw [Nat.eq_of_beq_eq_true hb]
  rw [Nat.eq_of_beq_eq_true hb] at hf
  have h1 := chkL_ok hc x hx
  unfold chk1 at h1
  rw [hf] at h1
  obtain ⟨h2, h3⟩ := Bool.and_eq_true_iff.1 h1
  refine ⟨he.of x hx, h2, fun c e => ?_⟩
  rw [e] at h3
  exact h3

end Go.X

/-
  THE EXECUTOR, part 29: a run from the empty memory, in whatever world; some blocks of the world may have names. Own work; generic in the program.
-/
set_option linter.unusedVariables false
set_option maxRecDepth 20000
namespace Go.X
open Go Go.V Go.RowKit

/-- the first N blocks are the package's variables; behind them, places of the world -/
def ren0 (N : Nat) (ex : List At) (w : World) : Ren := ⟨fun b => if b < N then some ⟨b, 0, 0⟩ else ex[b - N]?, w, fun _ => False, fun _ => False, fun _ => none⟩

theorem ren0_glob (N : Nat) (ex : List At) (w : World) : Glob N (ren0 N ex w) := fun g hg => if_pos hg

theorem sim0 {N : Nat} {ex : List At} {w : World} (hN : N ≤ w.heap.size) (hex : ∀ a ∈ ex, a.blk < w.heap.size) : Sim (ren0 N ex w) ⟨.leaf, N + ex.length⟩ w := by
  refine ⟨fun b k hb => ?_, fun b b' k k' a a' hb => ?_, fun b hb => ⟨?_, get_leaf b⟩, fun b a ha => ?_, Fr.refl _ _, fun b k a hb => ?_, fun b hb => hb.elim, fun c r hc => by cases hc⟩
  · rw [get_leaf] at hb; cases hb
  · rw [get_leaf] at hb; cases hb
  · have hb : N + ex.length ≤ b := hb
    show (if b < N then _ else _) = _
    rw [if_neg (by omega)]
    exact List.getElem?_eq_none (by omega)
  · have ha : (if b < N then some ⟨b, 0, 0⟩ else ex[b - N]?) = some a := ha
    split at ha
    · cases ha
      exact Nat.lt_of_lt_of_le (by assumption) hN
    · exact hex a (List.mem_of_getElem? ha)
  · rw [get_leaf] at hb; cases hb

theorem ret_mem {P : Program} {N : Nat} {M : Mem} (hM : MemOK P N M) {ex : List At} (hpre : M.pre = ⟨.leaf, N + ex.length⟩) {w : World} (hN : N ≤ w.heap.size) (hex : ∀ a ∈ ex, a.blk < w.heap.size) {as' : List Value} (ha : VRs (ren0 N ex w) M.as as') {K : Value → World → Prop}
    (hk : ∀ m' v' w', (ren0 N ex w).le m' → VR m' M.v v' → Sim m' M.post w' → Fr (fun _ => False) w w' → K v' w') : Ret P M.g as'.toArray w K := by
  have hs : Sim (ren0 N ex w) M.pre w := by rw [hpre]; exact sim0 hN hex
  refine hM (ren0 N ex w) w as' K hs (ren0_glob N ex w) ha fun m' v' w' hm hv hs' => hk m' v' w' hm hv hs' ?_
  have h := hs'.fr
  rw [hm.w0, hm.F] at h
  exact h

end Go.X

/-
  THE EXECUTOR, part 30: its memory as one of the assertions of a walk, and calls that were run within a walk. Own work; generic in the program.
-/
set_option linter.unusedVariables false
set_option maxRecDepth 20000
namespace Go.X
open Go Go.V Go.RowKit

/-- a memory with some blocks put over another one -/
noncomputable def insT (l : List (Nat × Blk)) (t : Tr Blk) : Tr Blk := List.rec (motive := fun _ => Tr Blk) t (fun p _ t => t.set p.2 p.1) l

/-- of the functions that answer in place, noEscape alone -/
noncomputable def hookN (n : Nat) : Hook := fun st g as =>
  bif Nat.beq g n then match as with
    | [x] => some (x, st)
    | _ => none
  else none

theorem hookN_ok {P : Program} {N n : Nat} (hI : InsOK P n Extern.AbiNoEscape.same) : HkOK P N (hookN n) := by
  intro m st st' w g as as' v K hs hg ha h hk
  unfold hookN at h
  cases h3 : Nat.beq g n with
  | false => rw [h3, cond_false] at h; cases h
  | true =>
    rw [h3, cond_true] at h
    split at h <;> try (cases h; done)
    rename_i x
    cases h
    cases ha with
    | cons hx hr =>
      cases hr
      rw [Nat.eq_of_beq_eq_true h3]
      exact hI.call (w' := w) rfl (hk m _ _ (Ren.le.refl m) hx hs)

/-- what is said of a world by itself -/
structure SimO (m : Ren) (s : St) (w : World) : Prop where
  obj : ∀ b k, s.heap.get b = some k → k ≠ .dead → ∃ a o, m b = some a ∧ w.heap[a.blk]? = some o ∧ ObjR m a o k
  inj : ∀ b b' k k' a a', s.heap.get b = some k → k ≠ .dead → s.heap.get b' = some k' → k' ≠ .dead → m b = some a → m b' = some a' → a.blk = a'.blk → b = b'
  fresh : ∀ b, s.next ≤ b → m b = none ∧ s.heap.get b = none
  lt : ∀ b a, m b = some a → a.blk < w.heap.size
  res : ∀ b, m.R b → m b = none ∧ b < s.next
  lpl : ∀ c r, m.lp c = some r → c < w.heap.size

theorem Sim.o {m : Ren} {s : St} {w : World} (h : Sim m s w) : SimO m s w := ⟨h.obj, h.inj, h.fresh, h.lt, h.res, h.lpl⟩

/-- the world's blocks that are told of -/
def owned (m : Ren) (s : St) (k : Nat) : Prop := ∃ b bk a, s.heap.get b = some bk ∧ bk ≠ .dead ∧ m b = some a ∧ a.blk = k

/-- the same names, from here on -/
def Ren.now (m : Ren) (s : St) (w : World) : Ren := ⟨m.f, w, owned m s, m.R, m.lp⟩

theorem vr_f {m m' : Ren} (h : m.f = m'.f) {x y : Value} (hv : VR m x y) : VR m' x y := hv.imp fun b a e => by rw [← h]; exact e
theorem vrs_f {m m' : Ren} (h : m.f = m'.f) {x y : List Value} (hv : VRs m x y) : VRs m' x y := hv.imp fun b a e => by rw [← h]; exact e

theorem SimO.now {m : Ren} {s : St} {w : World} (h : SimO m s w) : Sim (m.now s w) s w := by
  refine ⟨fun b k hb hd => ?_, h.inj, h.fresh, h.lt, Fr.refl _ _, fun b k a hb hd ha => .inl ⟨b, k, a, hb, hd, ha, rfl⟩, h.res, h.lpl⟩
  obtain ⟨a, o, h1, h2, h3⟩ := h.obj b k hb hd
  exact ⟨a, o, h1, h2, ObjR.imp (m := m) (m' := m.now s w) (fun _ _ e => e) (fun _ _ e => e) h3⟩

theorem SimO.fr {m : Ren} {s : St} {w w' : World} {F : Nat → Prop} (h : SimO m s w) (f : Fr F w w') (hn : ∀ k, owned m s k → ¬ F k) : SimO m s w' := by
  refine ⟨fun b k hb hd => ?_, h.inj, h.fresh, fun b a ha => Nat.lt_of_lt_of_le (h.lt b a ha) f.size, h.res, fun c r hc => Nat.lt_of_lt_of_le (h.lpl c r hc) f.size⟩
  obtain ⟨a, o, h1, h2, h3⟩ := h.obj b k hb hd
  exact ⟨a, o, h1, f.get h2 (hn _ ⟨b, k, a, hb, hd, h1, rfl⟩), h3⟩

theorem SimO.of_now {m : Ren} {s s' : St} {w w1 : World} (h : SimO (m.now s' w1) s w) : SimO m s w := by
  refine ⟨fun b k hb hd => ?_, h.inj, h.fresh, h.lt, h.res, h.lpl⟩
  obtain ⟨a, o, h1, h2, h3⟩ := h.obj b k hb hd
  exact ⟨a, o, h1, h2, ObjR.imp (m := m.now s' w1) (m' := m) (fun _ _ e => e) (fun _ _ e => e) h3⟩

/-- the executor's memory as an assertion -/
def As.st (N : Nat) (m : Ren) (s : St) : As :=
  ⟨owned m s, fun w => SimO m s w ∧ Glob N m, fun w h k ⟨b, bk, a, _, _, h3, h4⟩ => by rw [← h4]; exact h.1.lt b a h3, fun w w' F h f hn => ⟨h.1.fr f hn, h.2⟩⟩

variable {P : Program} {N : Nat} {F : Nat → Prop} {w0 w w' : World} {L : List As}

/-- a call that was run -/
theorem sMem {M : Mem} (hM : MemOK P N M) (h : Lx F w0 w L) {i : Nat} {m : Ren} (hi : L[i]? = some (As.st N m M.pre)) {as' : List Value} (ha : VRs m M.as as') {K : Value → World → Prop}
    (k : ∀ m' v' w', (∀ b a, m b = some a → m' b = some a) → VR m' M.v v' → Lx F w0 w' (L.set i (As.st N m' M.post)) → K v' w') : CallK P M.g as'.toArray w K := by
  obtain ⟨hs, hg⟩ : SimO m M.pre w ∧ Glob N m := h.get hi
  refine Ret.call (hM (m.now M.pre w) w as' K hs.now hg (vrs_f (m := m) (m' := m.now M.pre w) rfl ha) fun m' v' w' hm hv hs' => ?_)
  have f : Fr (owned m M.pre) w w' := by
    have e := hs'.fr
    rw [hm.w0, hm.F] at e
    exact e
  refine k m' v' w' (fun b a e => hm.at_ b a e) hv (h.step (a' := As.st N m' M.post) hi f ⟨hs'.o, Glob.up hm hg⟩ fun k hk => ?_)
  obtain ⟨b, bk, a, h1, h2, h3, rfl⟩ := hk
  have e := hs'.own b bk a h1 h2 h3
  rw [hm.w0, hm.F] at e
  exact e

/-- nothing is told as yet -/
theorem Lx.st (h : Lx F w0 w L) {ex : List At} (hN : N ≤ w.heap.size) (hex : ∀ a ∈ ex, a.blk < w.heap.size) : Lx F w0 w (As.st N (ren0 N ex w) ⟨.leaf, N + ex.length⟩ :: L) :=
  h.add (a := As.st N (ren0 N ex w) ⟨.leaf, N + ex.length⟩) (Fr.refl _ _) ⟨(sim0 hN hex).o, ren0_glob N ex w⟩ fun k ⟨b, bk, a, h1, _⟩ => by rw [get_leaf] at h1; cases h1

/-- less is told -/
theorem Lx.less (h : Lx F w0 w L) {i : Nat} {m : Ren} {s s' : St} (hi : L[i]? = some (As.st N m s')) (hle : stLe s s' = true) : Lx F w0 w (L.set i (As.st N m s)) := by
  obtain ⟨hs, hg⟩ : SimO m s' w ∧ Glob N m := h.get hi
  have hsub : ∀ b k, s.heap.get b = some k → s'.heap.get b = some k := trLe_ok (Bool.and_eq_true_iff.1 hle).2
  exact h.step (a' := As.st N m s) hi (Fr.refl _ _) ⟨(stLe_ok hle hs.now).o.of_now, hg⟩ fun k ⟨b, bk, a, h1, h2, h3, h4⟩ => .inl ⟨b, bk, a, hsub b bk h1, h2, h3, h4⟩

/-- reading what is told -/
theorem sLdX (h : Lx F w0 w L) {i : Nat} {m : Ren} {s : St} (hi : L[i]? = some (As.st N m s)) {d : LD} {x x' v : Value} (hx : VR m x x') (hv : xLd s d x = some v) {K : Value → Prop} (k : ∀ v', VR m v v' → K v') : vLd d x' w K := by
  obtain ⟨hs, hg⟩ : SimO m s w ∧ Glob N m := h.get hi
  exact xLd_ok hs.now (vr_f (m := m) (m' := m.now s w) rfl hx) hv fun v' hv' => k v' (vr_f (m := m.now s w) (m' := m) rfl hv')

/-- a block of the walk's becomes one of the executor's -/
theorem Lx.give {b : Nat} {cs xs : List Value} {m : Ren} {s : St} (h : Lx F w0 w (.blk b cs :: As.st N m s :: L)) (hv : VRs m xs cs) (es : Nat) (hN : N ≤ s.next) :
    Lx F w0 w (As.st N (m.add s.next ⟨b, 0, 0⟩) (s.new (.cells ⟨true, none, true, true⟩ es xs)) :: L) ∧ (∀ c a, m c = some a → m.add s.next ⟨b, 0, 0⟩ c = some a) := by
  obtain ⟨hs, hg⟩ : SimO m s w ∧ Glob N m := h.get (i := 1) rfl
  have hc : Cs w b cs := h.get (i := 0) rfl
  have hn := hs.fresh s.next (Nat.le_refl _)
  have hle : m.le (m.add s.next ⟨b, 0, 0⟩) := Ren.add_le hn.1
  have hself := Ren.add_same m s.next ⟨b, 0, 0⟩
  have hne : ∀ x, x ≠ s.next → m.add s.next ⟨b, 0, 0⟩ x = m x := fun x hx => Ren.add_ne m _ hx
  have hdj := List.pairwise_cons.1 h.dj
  have hdj2 := List.pairwise_cons.1 hdj.2
  have hold : ∀ k, owned m s k → k ≠ b := fun k hk e => by subst e; exact hdj.1 _ List.mem_cons_self k rfl hk
  have hget : ∀ x bk, (s.new (.cells ⟨true, none, true, true⟩ es xs)).heap.get x = some bk → (x = s.next ∧ bk = .cells ⟨true, none, true, true⟩ es xs) ∨ (x ≠ s.next ∧ s.heap.get x = some bk) := by
    intro x bk hx
    unfold St.new at hx
    simp only [get_set] at hx
    split at hx
    · rename_i e; cases hx; exact .inl ⟨e, rfl⟩
    · rename_i e; exact .inr ⟨e, hx⟩
  have hown : ∀ k, owned (m.add s.next ⟨b, 0, 0⟩) (s.new (.cells ⟨true, none, true, true⟩ es xs)) k → k = b ∨ owned m s k := by
    rintro k ⟨x, bk, a, h1, h2, h3, h4⟩
    rcases hget x bk h1 with ⟨e, _⟩ | ⟨e, h1⟩
    · rw [e, hself] at h3; cases h3; exact .inl h4.symm
    · rw [hne x e] at h3; exact .inr ⟨x, bk, a, h1, h2, h3, h4⟩
  refine ⟨⟨h.fr, ?_, ?_, ?_⟩, hle.at_⟩
  · intro a ha
    rcases List.mem_cons.1 ha with rfl | ha
    · refine ⟨⟨fun x bk hx hd => ?_, fun x x' k k' a a' hx hd hx' hd' ha ha' e => ?_, fun x hx => ?_, fun x a ha => ?_, fun x hx => ?_, hs.lpl⟩, Glob.up hle hg⟩
      · rcases hget x bk hx with ⟨e, e2⟩ | ⟨e, hx⟩
        · obtain ⟨T, ho⟩ := hc
          refine ⟨_, _, by rw [e]; exact hself, ho, ?_⟩
          rw [e2]
          refine ⟨fun i v hi => ?_, ?_, .inl rfl, ⟨fun _ => rfl, fun t ht => (by cases ht), fun _ => rfl, fun _ => ?_⟩⟩
          · obtain ⟨y, h1, h2⟩ := hv.get i hi
            exact ⟨y, by simpa using h1, h2.up hle⟩
          · simp [hv.length]
          · simp [hv.length]
        · obtain ⟨a, o, h1, h2, h3⟩ := hs.obj x bk hx hd
          exact ⟨a, o, by rw [hne x e]; exact h1, h2, h3.up hle⟩
      · rcases hget x k hx with ⟨e1, _⟩ | ⟨e1, hx⟩ <;> rcases hget x' k' hx' with ⟨e2, _⟩ | ⟨e2, hx'⟩
        · rw [e1, e2]
        · exfalso
          rw [e1, hself] at ha
          rw [hne x' e2] at ha'
          cases ha
          exact hold _ ⟨x', k', a', hx', hd', ha', rfl⟩ e.symm
        · exfalso
          rw [e2, hself] at ha'
          rw [hne x e1] at ha
          cases ha'
          exact hold _ ⟨x, k, a, hx, hd, ha, rfl⟩ e
        · rw [hne x e1] at ha
          rw [hne x' e2] at ha'
          exact hs.inj x x' k k' a a' hx hd hx' hd' ha ha' e
      · have hx : s.next + 1 ≤ x := hx
        have hf := hs.fresh x (by omega)
        refine ⟨by rw [hne x (by omega)]; exact hf.1, ?_⟩
        show (s.heap.set _ s.next).get x = none
        rw [get_set, if_neg (by omega)]
        exact hf.2
      · by_cases e : x = s.next
        · rw [e, hself] at ha; cases ha; exact hc.lt
        · rw [hne x e] at ha; exact hs.lt x a ha
      · obtain ⟨h1, h2⟩ := hs.res x hx
        exact ⟨by rw [hne x (by omega)]; exact h1, Nat.lt_succ_of_lt h2⟩
    · exact h.ok a (List.mem_cons_of_mem _ (List.mem_cons_of_mem _ ha))
  · intro a ha k hk
    rcases List.mem_cons.1 ha with rfl | ha
    · rcases hown k hk with rfl | hk
      · exact h.mine _ List.mem_cons_self k rfl
      · exact h.mine _ (List.mem_cons_of_mem _ List.mem_cons_self) k hk
    · exact h.mine a (List.mem_cons_of_mem _ (List.mem_cons_of_mem _ ha)) k hk
  · refine List.pairwise_cons.2 ⟨fun c hcL k hk => ?_, hdj2.2⟩
    rcases hown k hk with rfl | hk
    · exact hdj.1 c (List.mem_cons_of_mem _ hcL) k rfl
    · exact hdj2.1 c hcL k hk

/-- an int that is told is that int -/
theorem VR.int_eq {m : Ren} {k : IntKind} {n : Int} {v : Value} (h : VR m (.int k n) v) : v = .int k n := by cases h; rfl
theorem VR.lI_eq {m : Ren} {n : Int} {v : Value} (h : VR m (lI n) v) : v = .int .i64 n := by
  have h : VR m (.int .i64 n) v := h
  cases h; rfl
theorem VR.bool_eq {m : Ren} {b : Bool} {v : Value} (h : VR m (.bool b) v) : v = .bool b := by cases h; rfl

end Go.X

/-
  THE EXECUTOR, part 31: numbers out of bytes, eight for each, at once: the plain function. Own work; generic in the program.
-/
set_option linter.unusedVariables false
set_option maxRecDepth 20000
namespace Go.X
open Go Go.V Go.RowKit

def leStep (n : Int) (b : UInt8) (i : Nat) : Int := bitsI .i64 (· ||| ·) n (IntKind.i64.wrap (IntKind.i64.wrap (b.toNat : Int) * 2 ^ (min (IntKind.i64.wrap (8 * (i : Int))).toNat IntKind.i64.bits)))
def leAcc (n : Int) (i : Nat) : List UInt8 → Int
  | [] => n
  | b :: r => leAcc (leStep n b i) (i + 1) r
def leInts : Nat → List UInt8 → List Int
  | 0, _ => []
  | k + 1, l => leAcc 0 0 (l.take 8) :: leInts k (l.drop 8)

theorem leAcc_snoc : ∀ (l : List UInt8) (n : Int) (i : Nat) (b : UInt8), leAcc n i (l ++ [b]) = leStep (leAcc n i l) b (i + l.length)
  | [], n, i, b => rfl
  | a :: r, n, i, b => by
    show leAcc (leStep n a i) (i + 1) (r ++ [b]) = _
    rw [leAcc_snoc r, List.length_cons]
    show leStep (leAcc (leStep n a i) (i + 1) r) b _ = leStep (leAcc (leStep n a i) (i + 1) r) b _
    congr 1
    omega

/-- the list of a text's numbers, in place of the function that makes it -/
noncomputable def listH (g0 : Nat) : Hook := fun st g as =>
  bif Nat.beq g g0 then match as with
    | [.string s] => bif Nat.ble 8 s.data.toList.length && Nat.ble s.data.toList.length 100000 then
        some (.slice (some ⟨st.next, 0, none⟩) (s.data.toList.length / 8) (s.data.toList.length / 8 + far), st.new (.cells ⟨true, none, true, false⟩ 1 ((leInts (s.data.toList.length / 8) s.data.toList).map fun n => .int .i64 n)))
      else none
    | _ => none
  else none

theorem leInts_len : ∀ (k : Nat) (l : List UInt8), (leInts k l).length = k
  | 0, _ => rfl
  | k + 1, l => by show (leInts k _).length + 1 = k + 1; rw [leInts_len k]

theorem vrs_ints (m : Ren) : ∀ l : List Int, VRs m (l.map fun n => .int .i64 n) (l.map fun n => .int .i64 n)
  | [] => .nil
  | n :: r => .cons (.int _ _) (vrs_ints m r)

/-- a row of the world becomes a block of the executor's -/
theorem Sim.giveRow {m : Ren} {s : St} {w w' : World} (h : Sim m s w) (f : Fr (fun _ => False) w w') {b : Nat} (hb : w.heap.size ≤ b) {xs rest : List Value} (hc : Cs w' b (xs ++ rest)) (hx : VRs m xs xs) :
    m.le (m.add s.next ⟨b, 0, rest.length⟩) ∧ Sim (m.add s.next ⟨b, 0, rest.length⟩) (s.new (.cells ⟨true, none, true, false⟩ 1 xs)) w' := by
  have hn := h.fresh s.next (Nat.le_refl _)
  have hle : m.le (m.add s.next ⟨b, 0, rest.length⟩) := Ren.add_le hn.1
  have hself := Ren.add_same m s.next ⟨b, 0, rest.length⟩
  have hne : ∀ x, x ≠ s.next → m.add s.next ⟨b, 0, rest.length⟩ x = m x := fun x hx => Ren.add_ne m _ hx
  have hw0 := h.fr.size
  have hget : ∀ x bk, (s.new (.cells ⟨true, none, true, false⟩ 1 xs)).heap.get x = some bk → (x = s.next ∧ bk = .cells ⟨true, none, true, false⟩ 1 xs) ∨ (x ≠ s.next ∧ s.heap.get x = some bk) := by
    intro x bk hx
    unfold St.new at hx
    simp only [get_set] at hx
    split at hx
    · rename_i e; cases hx; exact .inl ⟨e, rfl⟩
    · rename_i e; exact .inr ⟨e, hx⟩
  refine ⟨hle, ⟨fun x bk hx' hd => ?_, fun x x' k k' a a' hx1 hd hx2 hd' ha ha' e => ?_, fun x hx' => ?_, fun x a ha => ?_, h.fr.more f, fun x bk a hx' hd ha => ?_, fun x hx' => ?_, fun c r hc' => Nat.lt_of_lt_of_le (h.lpl c r hc') f.size⟩⟩
  · rcases hget x bk hx' with ⟨e, e2⟩ | ⟨e, hx'⟩
    · obtain ⟨T, ho⟩ := hc
      refine ⟨_, _, by rw [e]; exact hself, ho, ?_⟩
      rw [e2]
      refine ⟨fun i v hi => ?_, ?_, .inl rfl, ⟨fun _ => rfl, fun t ht => (by cases ht), fun _ => rfl, fun e => (by cases e)⟩⟩
      · obtain ⟨y, h1, h2⟩ := hx.get i hi
        refine ⟨y, ?_, h2.up hle⟩
        have hlt := (List.getElem?_eq_some_iff.1 h1).1
        show (xs ++ rest).toArray[0 + i]? = some y
        rw [Nat.zero_add, List.getElem?_toArray, List.getElem?_append_left hlt]
        exact h1
      · simp
    · obtain ⟨a, o, h1, h2, h3⟩ := h.obj x bk hx' hd
      exact ⟨a, o, by rw [hne x e]; exact h1, f.get h2 (fun e => e), h3.up hle⟩
  · rcases hget x k hx1 with ⟨e1, _⟩ | ⟨e1, hx1⟩ <;> rcases hget x' k' hx2 with ⟨e2, _⟩ | ⟨e2, hx2⟩
    · rw [e1, e2]
    · exfalso
      rw [e1, hself] at ha
      rw [hne x' e2] at ha'
      have := h.lt x' a' ha'
      cases ha
      simp only at e
      omega
    · exfalso
      rw [e2, hself] at ha'
      rw [hne x e1] at ha
      have := h.lt x a ha
      cases ha'
      simp only at e
      omega
    · rw [hne x e1] at ha
      rw [hne x' e2] at ha'
      exact h.inj x x' k k' a a' hx1 hd hx2 hd' ha ha' e
  · have hx' : s.next + 1 ≤ x := hx'
    have hf := h.fresh x (by omega)
    refine ⟨by rw [hne x (by omega)]; exact hf.1, ?_⟩
    show (s.heap.set _ s.next).get x = none
    rw [get_set, if_neg (by omega)]
    exact hf.2
  · by_cases e : x = s.next
    · rw [e, hself] at ha; cases ha; exact hc.lt
    · rw [hne x e] at ha; exact Nat.lt_of_lt_of_le (h.lt x a ha) f.size
  · rcases hget x bk hx' with ⟨e, _⟩ | ⟨e, hx'⟩
    · rw [e, hself] at ha
      cases ha
      exact .inr (Nat.le_trans hw0 hb)
    · rw [hne x e] at ha
      exact h.own x bk a hx' hd ha
  · obtain ⟨h1, h2⟩ := h.res x hx'
    exact ⟨by rw [hne x (by omega)]; exact h1, Nat.lt_succ_of_lt h2⟩

/-- what the function must do for that -/
def ListOK (P : Program) (g0 : Nat) : Prop := ∀ (l : List UInt8) (w : World) (K : Value → World → Prop), 8 ≤ l.length → l.length ≤ 100000 →
  (∀ w' v b, Row w' v ((leInts (l.length / 8) l).map fun n => .int .i64 n) (some b) → w.heap.size ≤ b → Fr (fun _ => False) w w' → K v w') → CallK P g0 #[str l] w K

theorem listH_ok {P : Program} {N g0 : Nat} (hL : ListOK P g0) : HkOK P N (listH g0) := by
  intro m st st' w g vs vs' v K hs hg ha h hk
  unfold listH at h
  cases hb : Nat.beq g g0 with
  | false => rw [hb, cond_false] at h; cases h
  | true =>
    rw [hb, cond_true] at h
    split at h <;> try (cases h; done)
    rename_i s
    cases hc : (Nat.ble 8 s.data.toList.length && Nat.ble s.data.toList.length 100000) with
    | false => rw [hc, cond_false] at h; cases h
    | true =>
      rw [hc, cond_true] at h
      obtain ⟨h1, h2⟩ := Bool.and_eq_true_iff.1 hc
      have h1 := Nat.le_of_ble_eq_true h1
      have h2 := Nat.le_of_ble_eq_true h2
      rw [Nat.eq_of_beq_eq_true hb]
      cases ha with
      | cons hx hr =>
        cases hr
        cases hx
        cases h
        obtain ⟨⟨l⟩⟩ := s
        refine hL l w K h1 h2 fun w' v b hrow hb' hf => ?_
        obtain ⟨rest, hv, hcs⟩ := hrow
        obtain ⟨hle, hs'⟩ := hs.giveRow hf hb' hcs (vrs_ints m _)
        refine hk _ _ _ hle ?_ hs'
        rw [hv]
        have hln : ((leInts (l.length / 8) l).map fun n => Value.int .i64 n).length = l.length / 8 := by rw [List.length_map, leInts_len]
        rw [hln]
        have hsl := VR.sl (m := m.add st.next ⟨b, 0, rest.length⟩) (b := st.next) (o := 0) (n := l.length / 8) (k := l.length / 8 + far) (Ren.add_same m st.next ⟨b, 0, rest.length⟩)
        have e : capOf ⟨b, 0, rest.length⟩ (l.length / 8 + far) = l.length / 8 + rest.length := by
          have hnb : Nat.blt (l.length / 8 + far) far = false := by
            cases e : Nat.blt (l.length / 8 + far) far with
            | false => rfl
            | true => have := Nat.le_of_ble_eq_true e; omega
          unfold capOf
          rw [hnb, cond_false]
          show l.length / 8 + far - far + rest.length = _
          omega
        rw [e] at hsl
        exact hsl

end Go.X
