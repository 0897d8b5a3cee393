/-
  THE EXECUTOR, part 23: regions in whatever order: the chain's steps; the whole. Own work; generic in the program.
-/
import Derived.Test.YtdkklhnleppfcaaGreatSg12
set_option linter.unusedVariables false
set_option linter.unusedSimpArgs false

set_option linter.unusedVariables false
set_option maxRecDepth 20000
namespace Go.X
open Go Go.V Go.RowKit

section
variable {P : Program} {N : Nat} {C : Caller} {ops : Array Oper} {tbl : List (List Nat)} {e0 : Ev} {base : Nat} {pt pt' : Pt} {s : DS} {L : LF} {m m' : Ren} {ρ : Env} {w : World} {G0 : Ren → Prop}

theorem exec_fix (hC : COk P G0 C) (hGm : ∀ m m' : Ren, m.sub m' → G0 m → G0 m') (hN : ∀ m, G0 m → Glob N m) (ht : tblOK ops tbl = true) (hst : Step ops tbl pt s) (hw : WF P N ops tbl e0 base pt) (hcl : Closed ops L)
    (hG : G ops m base e0 pt L ρ w m') (hg : G0 m) {gone : List Nat} (hk : s.k = .fix gone) (hLs : L s.i = false) (hd : ∀ d ∈ dirs ops s.i, L d = true) (h : dstep P N C ops pt s = some pt')
    {I : Env → World → Prop} (hI : ∀ ρ' w' m2, WF P N ops tbl e0 base pt' → G ops m base e0 pt' (L.add s.i) ρ' w' m2 → I ρ' w') : stepI P ops s.i I ρ w := by
  have hg' : G0 m' := hGm _ _ hG.le.sub hg
  unfold dstep at h
  split at h <;> try (cases h; done)
  rename_i o ho
  have hpair : ∀ v, (⟨s, v⟩ :: pt.rs : List Rc).Pairwise (Rel ops tbl) := fun v => List.pairwise_cons.2 ⟨fun r hr => hst.rel r hr v, hw.rel⟩
  have hszs : ∀ v, ∀ q ∈ (⟨s, v⟩ :: pt.rs : List Rc), q.s.i < ops.size := fun v q hq => by
    rcases List.mem_cons.1 hq with rfl | hq
    · exact hst.sz
    · exact hw.sz q hq
  have her : ∀ v, ER m' (EL ops L e0 ([] ++ ⟨s, v⟩ :: pt.rs)) ρ := fun v => by
    show ER m' (EL ops L e0 (⟨s, v⟩ :: pt.rs)) ρ
    rw [EL_new (show L (Rc.mk s v).s.i = false from hLs)]
    exact hG.er
  have he : ER m' (restr s.lk pt.e) ρ := by
    have := look_er (nw := []) (r := ⟨s, undef⟩) ht hcl (hpair undef) (hszs undef) hLs hd (her undef)
    rw [hw.env]
    exact this
  have hmust : ∀ i, (i = s.i ∨ i ∈ tb tbl s.i ∨ i ∈ pt.must) → L.add s.i i = true := fun i hi => by
    by_cases e : i = s.i
    · rw [e]; exact LF.add_same L _
    · rw [LF.add_ne L e]
      rcases hi with hi | hi | hi
      · exact absurd hi e
      · exact tbl_in ht hcl s.i hst.sz hd i hi
      · exact hG.must i hi
  have hpi : ∀ q ∈ pt.pn, q.i ≠ s.i := fun q hq => hst.fresh _ (hw.mine q hq).1
  have hput : ∀ {m2 : Ren} {v v' : Value}, (∀ b a, m' b = some a → m2 b = some a) → VR m2 v v' → ER m2 (EL ops (L.add s.i) e0 (⟨s, v⟩ :: pt.rs)) (V.put ρ o.dst v') := fun {m2 v v'} hle hv => by
    rw [← dst_of ho]
    exact put_er (nw := []) (r := ⟨s, v⟩) ht hcl (hpair v) (hszs v) hLs (fun i u hu => (her v i u hu).imp hle) hv
  refine stepI_of ho ?_
  split at h <;> try (cases h; done)
  · rename_i hgr
    rw [hk] at h
    cases h
    refine gRun_ok he hgr (fun e => by cases e) fun _ => hI _ _ m' ?_ ⟨hG.le, ?_, hG.fresh, fun q hq hqL => ?_, hG.res, hput (fun _ _ h => h) (.tup .nil), fun i hi => ?_⟩
    · refine WF.same (pt' := { pt with must := s.i :: pt.must }) hst hw rfl rfl (fun p hp => hp) (fun i hi => List.mem_cons_of_mem _ hi) rfl rfl hw.reads (.inl List.mem_cons_self)
    · have : hL (Pt.note { pt with must := s.i :: pt.must } ops s undef) (L.add s.i) = hL pt L := hL_same (show NoRole pt.pn s.i from norole hst hw)
      rw [this]; exact hG.sim
    · have hq : q ∈ pt.pn := hq
      rw [LF.add_ne L (hpi q hq)] at hqL
      exact hG.pend q hq hqL
    · rcases List.mem_cons.1 (show i ∈ s.i :: pt.must from hi) with hi | hi
      · exact hmust i (.inl hi)
      · exact hmust i (.inr (.inr hi))
  · rename_i hgr
    rw [hk] at h
    simp only at h
    split at h <;> try (cases h; done)
    rename_i v pt1 hf
    cases h
    refine gRun_ok he hgr (fun _ => ?_) (fun e => by cases e)
    obtain ⟨st', hgi, hx, hle, hrd, e1⟩ := dFix_out hf
    -- the names that are still open
    have hsub : ∀ q ∈ pt.pn.filter (fun q => !(has gone q.i)), q ∈ pt.pn ∧ q.i ∉ gone := by
      intro q hq
      obtain ⟨h1, h2⟩ := List.mem_filter.1 hq
      exact ⟨h1, fun e => by rw [has_iff.2 e] at h2; cases h2⟩
    generalize hpn : pt.pn.filter (fun q => !(has gone q.i)) = pn' at *
    have hnod' : pn'.Pairwise Apart := by rw [← hpn]; exact hw.nod.sublist List.filter_sublist
    have hsome : ∀ q ∈ pn', (pt.C.heap.get q.n).isSome = true := fun q hq => by
      obtain ⟨bk, h1, _⟩ := (hw.names q (hsub q hq).1).2
      rw [h1]; rfl
    have hat : ∀ {b}, b ∈ pn'.map (·.n) → ∃ q ∈ pn', q.n = b ∧ pnAt pn' b = some q ∧ pnAt pt.pn b = some q := by
      intro b hb
      obtain ⟨q, hq, e⟩ := List.mem_map.1 hb
      exact ⟨q, hq, e, by rw [← e]; exact pnAt_mem hnod' hq, by rw [← e]; exact pnAt_mem hw.nod (hsub q hq).1⟩
    have hQ : ∀ b k, (killN pn' pt.C.heap).get b = some k → k ≠ .dead → b ∉ pn'.map (·.n) ∧ hL pt L b = some k := by
      intro b k hb hdd
      rw [killN_get] at hb
      split at hb
      · cases hb; exact absurd rfl hdd
      · rename_i hn
        refine ⟨hn, ?_⟩
        unfold hL
        cases hp : pnAt pt.pn b with
        | none => exact hb
        | some q =>
          obtain ⟨g1, g2⟩ := pnAt_some hp
          have hqg : q.i ∈ gone := by
            cases hh : has gone q.i with
            | true => exact has_iff.1 hh
            | false => exact absurd (by rw [← g2, ← hpn]; exact List.mem_map_of_mem (List.mem_filter.2 ⟨g1, by rw [hh]; rfl⟩)) hn
          show cont L q _ = _
          unfold cont
          rw [tbl_in ht hcl s.i hst.sz hd _ (hst.gone gone hk _ hqg), cond_true, hgi q g1 hqg, g2]
          exact hb
    have hnx0 : ∀ b, pt.C.next ≤ b → b ∉ pn'.map (·.n) := fun b hb hm => by
      obtain ⟨q, hq, e⟩ := List.mem_map.1 hm
      have := (hw.names q (hsub q hq).1).1
      omega
    let mr : Ren := ⟨m'.f, w, fun c => ∃ b k a, (killN pn' pt.C.heap).get b = some k ∧ k ≠ .dead ∧ m' b = some a ∧ a.blk = c, fun b => m'.R b ∨ ∃ q ∈ pn', L q.i = false ∧ q.n = b, m'.lp⟩
    have himp : ∀ b a, m' b = some a → mr b = some a := fun _ _ h => h
    have hsr : Sim mr ⟨killN pn' pt.C.heap, pt.C.next⟩ w := by
      refine ⟨fun b k hb hdd => ?_, fun b b' k k' a a' hb hdd hb' hdd' ha ha' e => ?_, fun b hb => ⟨hG.fresh b hb, ?_⟩, hG.sim.lt, Fr.refl _ _, fun b k a hb hdd ha => .inl ⟨b, k, a, hb, hdd, ha, rfl⟩, fun b hb => ?_, hG.sim.lpl⟩
      · obtain ⟨a, ob, g1, g2, g3⟩ := hG.sim.obj b k (hQ b k hb hdd).2 hdd
        exact ⟨a, ob, g1, g2, g3.imp himp fun _ _ h => h⟩
      · exact hG.sim.inj b b' k k' a a' (hQ b k hb hdd).2 hdd (hQ b' k' hb' hdd').2 hdd' ha ha' e
      · show (killN pn' pt.C.heap).get b = none
        rw [killN_get, if_neg (hnx0 b hb)]
        exact hw.nx b hb
      · rcases hb with hb | ⟨q, hq, hqL, rfl⟩
        · rw [hG.le.R] at hb
          obtain ⟨g1, g2⟩ := hG.res b hb
          exact ⟨g1, Nat.lt_of_lt_of_le g2 hw.bs⟩
        · exact ⟨hG.pend q (hsub q hq).1 hqL, (hw.names q (hsub q hq).1).1⟩
    refine xOp_ok hC hsr (fun i u hu => (he i u hu).imp himp) (hN mr (hGm _ _ ⟨himp, fun _ _ h => h⟩ hg')) (hGm _ _ ⟨himp, fun _ _ h => h⟩ hg') hx fun m1 v' w1 hle1 hv hs1 => ?_
    -- behind the operation
    have hf1 : ∀ b a, m' b = some a → m1 b = some a := fun b a hb => hle1.at_ b a hb
    let m2 : Ren := ⟨m1.f, m'.w0, m'.F, m'.R, m1.lp⟩
    have himp2 : ∀ b a, m1 b = some a → m2 b = some a := fun _ _ h => h
    have hgetN : ∀ b, b ∉ pn'.map (·.n) → (backN pt.C.heap pn' st'.heap).get b = st'.heap.get b := fun b hb => by rw [backN_get hsome, if_neg hb]
    have hgetY : ∀ b, b ∈ pn'.map (·.n) → (backN pt.C.heap pn' st'.heap).get b = pt.C.heap.get b := fun b hb => by rw [backN_get hsome, if_pos hb]
    have hnx1 : ∀ b, st'.next ≤ b → (backN pt.C.heap pn' st'.heap).get b = none := fun b hb => by
      rw [hgetN b (hnx0 b (Nat.le_trans hle hb))]
      exact (hs1.fresh b hb).2
    have hwf : WF P N ops tbl e0 base (pt1.note ops s v) := wf_fix (o := o) (gone := gone) hst hw hf (by rw [e1]; exact hnx1)
    -- what the heap says
    have hpt1 : ∀ b, hL (pt1.note ops s v) (L.add s.i) b = if b ∈ pn'.map (·.n) then hL pt L b else st'.heap.get b := by
      intro b
      show (match pnAt pt1.pn b with | some q => cont (L.add s.i) q pt1.C.heap | none => pt1.C.heap.get b) = _
      rw [e1]
      show (match pnAt pn' b with | some q => cont (L.add s.i) q (backN pt.C.heap pn' st'.heap) | none => (backN pt.C.heap pn' st'.heap).get b) = _
      by_cases hb : b ∈ pn'.map (·.n)
      · rw [if_pos hb]
        obtain ⟨q, hq, g1, g2, g3⟩ := hat hb
        rw [g2]
        unfold hL
        rw [g3]
        show cont _ q _ = cont _ q _
        unfold cont
        rw [LF.add_ne L (hpi q (hsub q hq).1), insL_add (fun x hx => hst.fresh _ ((hw.keys q (hsub q hq).1).2.2 x hx).2), hgetY q.n (by rw [g1]; exact hb)]
      · rw [if_neg hb]
        cases hp : pnAt pn' b with
        | some q =>
          obtain ⟨g1, g2⟩ := pnAt_some hp
          exact absurd (by rw [← g2]; exact List.mem_map_of_mem g1) hb
        | none => exact hgetN b hb
    have hF : ∀ c, mr.F c → m'.F c ∨ m'.w0.heap.size ≤ c := by
      rintro c ⟨b, k, a, g1, g2, g3, rfl⟩
      exact hG.sim.own b k a (hQ b k g1 g2).2 g2 g3
    have hnF : ∀ b k a, b ∈ pn'.map (·.n) → hL pt L b = some k → k ≠ .dead → m' b = some a → ¬ mr.F a.blk := by
      rintro b k a hb hk hdd ha ⟨b2, k2, a2, g1, g2, g3, g4⟩
      obtain ⟨q1, q2⟩ := hQ b2 k2 g1 g2
      have := hG.sim.inj b2 b k2 k a2 a q2 g2 hk hdd g3 ha g4
      exact q1 (by rw [this]; exact hb)
    have hfr : Fr mr.F w w1 := by
      have := hs1.fr
      rw [hle1.F, hle1.w0] at this
      exact this
    have hown1 : ∀ b k a, st'.heap.get b = some k → k ≠ .dead → m1 b = some a → mr.F a.blk ∨ w.heap.size ≤ a.blk := fun b k a hb hdd ha => by
      have := hs1.own b k a hb hdd ha
      rw [hle1.F, hle1.w0] at this
      exact this
    have hold : ∀ b k, hL pt L b = some k → k ≠ .dead → ∃ a, m' b = some a := fun b k hb hdd => let ⟨a, _, g, _⟩ := hG.sim.obj b k hb hdd; ⟨a, g⟩
    refine hI _ _ m2 hwf ⟨⟨fun b a hb => hf1 b a (hG.le.at_ b a hb), hG.le.w0, hG.le.F, hG.le.R, fun c r hc => hle1.lp c r (hG.le.lp c r hc)⟩, ⟨fun b k hb hdd => ?_, fun b b' k k' a a' hb hdd hb' hdd' ha ha' e => ?_, hs1.lt, ?_, fun b k a hb hdd ha => ?_, hs1.lpl⟩, fun b hb => ?_, fun q hq hqL => ?_, fun b hb => ?_, ?_, fun i hi => ?_⟩
    · rw [hpt1] at hb
      split at hb
      · rename_i hbn
        obtain ⟨a, ob, g1, g2, g3⟩ := hG.sim.obj b k hb hdd
        exact ⟨a, ob, hf1 b a g1, hfr.get g2 (hnF b k a hbn hb hdd g1), g3.imp (m' := m2) hf1 hle1.lp⟩
      · obtain ⟨a, ob, g1, g2, g3⟩ := hs1.obj b k hb hdd
        exact ⟨a, ob, g1, g2, g3.imp himp2 fun _ _ h => h⟩
    · have mixed : ∀ {b b' k k' a a'}, b ∈ pn'.map (·.n) → hL pt L b = some k → k ≠ .dead → st'.heap.get b' = some k' → k' ≠ .dead → m1 b = some a → m1 b' = some a' → a.blk = a'.blk → False := by
        intro b b' k k' a a' hbn hb hdd hb' hdd' ha ha' e
        obtain ⟨a0, g0⟩ := hold b k hb hdd
        have := hf1 b a0 g0
        rw [ha] at this
        cases this
        rcases hown1 b' k' a' hb' hdd' ha' with g | g
        · rw [← e] at g
          exact hnF b k a hbn hb hdd g0 g
        · have := hG.sim.lt b a g0
          omega
      rw [hpt1] at hb hb'
      split at hb
      · rename_i hbn
        split at hb'
        · rename_i hbn'
          obtain ⟨a0, g0⟩ := hold b k hb hdd
          obtain ⟨a0', g0'⟩ := hold b' k' hb' hdd'
          have q1 := hf1 b a0 g0
          have q2 := hf1 b' a0' g0'
          have ha1 : m1 b = some a := ha
          have ha1' : m1 b' = some a' := ha'
          rw [ha1] at q1
          rw [ha1'] at q2
          cases q1
          cases q2
          exact hG.sim.inj b b' k k' a a' hb hdd hb' hdd' g0 g0' e
        · exact (mixed hbn hb hdd hb' hdd' ha ha' e).elim
      · rename_i hbn
        split at hb'
        · rename_i hbn'
          exact (mixed hbn' hb' hdd' hb hdd ha' ha e.symm).elim
        · exact hs1.inj b b' k k' a a' hb hdd hb' hdd' ha ha' e
    · show Fr m'.F m'.w0 w1
      exact hG.sim.fr.trans hfr fun x hx hxF => (hF x hxF).resolve_right (Nat.not_le.2 hx)
    · show m'.F a.blk ∨ m'.w0.heap.size ≤ a.blk
      rw [hpt1] at hb
      split at hb
      · obtain ⟨a0, g0⟩ := hold b k hb hdd
        have := hf1 b a0 g0
        have ha1 : m1 b = some a := ha
        rw [ha1] at this
        cases this
        exact hG.sim.own b k a hb hdd g0
      · rcases hown1 b k a hb hdd ha with g | g
        · exact hF _ g
        · exact .inr (Nat.le_trans hG.sim.fr.size g)
    · have hb' : st'.next ≤ b := by rw [e1] at hb; exact hb
      exact (hs1.fresh b hb').1
    · have hq : q ∈ pn' := by rw [e1] at hq; exact hq
      rw [LF.add_ne L (hpi q (hsub q hq).1)] at hqL
      have : m1.R q.n := by rw [hle1.R]; exact .inr ⟨q, hq, hqL, rfl⟩
      exact (hs1.res _ this).1
    · refine ⟨?_, (hG.res b hb).2⟩
      have : m1.R b := by rw [hle1.R]; exact .inl (by rw [hG.le.R]; exact hb)
      exact (hs1.res _ this).1
    · have : (pt1.note ops s v).rs = ⟨s, v⟩ :: pt.rs := by rw [e1]; rfl
      rw [this]
      exact hput (fun b a h => hf1 b a h) (hv.imp himp2)
    · have hi' : i ∈ s.i :: (gone ++ pt.must) := by rw [e1] at hi; exact hi
      rcases List.mem_cons.1 hi' with hi | hi
      · exact hmust i (.inl hi)
      · rcases List.mem_append.1 hi with hi | hi
        · exact hmust i (.inr (.inl (hst.gone gone hk i hi)))
        · exact hmust i (.inr (.inr hi))

def Chain (ops : Array Oper) : List DS → Prop
  | [] => True
  | s :: r => (∀ d ∈ dirs ops s.i, d ∈ r.map (·.i)) ∧ Chain ops r

structure Cond (P : Program) (N : Nat) (C : Caller) (ops : Array Oper) (tbl : List (List Nat)) (e0 : Ev) (base : Nat) (ptE : Pt) (m : Ren) (bef rem : List DS) (pt : Pt) (L : LF) (ρ : Env) (w : World) (mm : Ren) : Prop where
  fold : dfold P N C ops pt rem = some ptE
  ord : orderOK ops tbl bef rem = true
  rs : pt.rs.map (·.s) = bef
  chain : Chain ops bef
  lo : ∀ s ∈ rem, L s.i = false
  all : ∀ i, i < ops.size → i ∈ bef.map (·.i) ∨ i ∈ rem.map (·.i)
  wf : WF P N ops tbl e0 base pt
  g : G ops m base e0 pt L ρ w mm

theorem rs_ids {bef : List DS} (h : pt.rs.map (·.s) = bef) : pt.rs.map (·.s.i) = bef.map (·.i) := by
  rw [← h, List.map_map]
  rfl

theorem step_of {bef r : List DS} (h : orderOK ops tbl bef (s :: r) = true) (hrs : pt.rs.map (·.s) = bef) : Step ops tbl pt s ∧ (∀ d ∈ dirs ops s.i, d ∈ bef.map (·.i)) ∧ orderOK ops tbl (s :: bef) r = true ∧ ∀ g, s.k = .fix g → ∀ s' ∈ r, s.i ∈ tb tbl s'.i := by
  unfold orderOK at h
  obtain ⟨h, h5⟩ := Bool.and_eq_true_iff.1 h
  obtain ⟨h, h4⟩ := Bool.and_eq_true_iff.1 h
  obtain ⟨h, h3⟩ := Bool.and_eq_true_iff.1 h
  obtain ⟨h1, h2⟩ := Bool.and_eq_true_iff.1 h
  refine ⟨⟨by rwa [Nat.blt_eq] at h1, fun r hr v => ?_, fun j hj => ?_, fun g hg => ?_⟩, fun d hd => has_iff.1 (List.all_eq_true.1 h2 d hd), h5, fun g hg s' hs' => ?_⟩
  · exact rel_of (List.all_eq_true.1 h3 r.s (by rw [← hrs]; exact List.mem_map_of_mem hr))
  · unfold kindOK at h4
    rw [hj] at h4
    exact has_iff.1 h4
  · unfold kindOK at h4
    rw [hg] at h4
    exact fun i hi => has_iff.1 (List.all_eq_true.1 (Bool.and_eq_true_iff.1 h4).1 i hi)
  · unfold kindOK at h4
    rw [hg] at h4
    exact has_iff.1 (List.all_eq_true.1 (Bool.and_eq_true_iff.1 h4).2 s' hs')

theorem dstep_rs {pt' : Pt} (h : dstep P N C ops pt s = some pt') : pt'.rs.map (·.s) = s :: pt.rs.map (·.s) := by
  unfold dstep at h
  split at h <;> try (cases h; done)
  split at h <;> try (cases h; done)
  · split at h <;> (cases h; rfl)
  · split at h
    · split at h <;> try (cases h; done)
      cases h; rfl
    · split at h <;> try (cases h; done)
      cases h; rfl
    · split at h <;> try (cases h; done)
      cases h; rfl
    · split at h <;> try (cases h; done)
      rename_i pt1 hv
      cases h
      unfold dIns at hv
      repeat' (split at hv <;> try (cases hv; done))
      cases hv
      rfl
    · split at h <;> try (cases h; done)
      rename_i v pt1 hv
      cases h
      obtain ⟨st', _, _, _, _, e⟩ := dFix_out hv
      rw [e]
      rfl

def headFix : List DS → Prop
  | [] => True
  | s :: _ => ∃ g, s.k = .fix g

theorem advance {ptE : Pt} : ∀ (rem bef : List DS) (pt : Pt), Cond P N C ops tbl e0 base ptE m bef rem pt L ρ w m' → ∃ bef' rem' pt', headFix rem' ∧ Cond P N C ops tbl e0 base ptE m bef' rem' pt' L ρ w m'
  | [], bef, pt, h => ⟨bef, [], pt, trivial, h⟩
  | s :: r, bef, pt, h => by
    cases hk : s.k with
    | fix g => exact ⟨bef, s :: r, pt, ⟨g, hk⟩, h⟩
    | _ =>
      have hnf : notFix s := fun g e => by rw [hk] at e; cases e
      obtain ⟨h1, h2, h3, h4⟩ := step_of h.ord h.rs
      have hf := h.fold
      unfold dfold at hf
      split at hf <;> try (cases hf; done)
      rename_i pt1 hs
      have hl := h.lo s List.mem_cons_self
      refine advance r (s :: bef) pt1 ⟨hf, h3, by rw [dstep_rs hs, h.rs], ⟨h2, h.chain⟩, fun x hx => h.lo x (List.mem_cons_of_mem _ hx), fun i hi => ?_, wf_light h1 h.wf hnf hs, G_light h.wf hnf hs hl h.g⟩
      rcases h.all i hi with g | g
      · exact .inl (by rw [List.map_cons]; exact List.mem_cons_of_mem _ g)
      · rw [List.map_cons] at g
        rcases List.mem_cons.1 g with g | g
        · exact .inl (by rw [List.map_cons, g]; exact List.mem_cons_self)
        · exact .inr g

theorem some_ready {l : Array Bool} (hsz : l.size = ops.size) : ∀ {bef : List DS}, Chain ops bef → (∀ s ∈ bef, s.i < ops.size) → (∃ s ∈ bef, l.getD s.i false = false) → ∃ i, i ∈ Region.ready .any ops l
  | [], _, _, ⟨s, hs, _⟩ => by cases hs
  | s :: r, ⟨h1, h2⟩, hb, hx => by
    by_cases hr : ∃ s ∈ r, l.getD s.i false = false
    · exact some_ready hsz h2 (fun x hx => hb x (List.mem_cons_of_mem _ hx)) hr
    · obtain ⟨s', hs', hl⟩ := hx
      rcases List.mem_cons.1 hs' with e | hs'
      · subst e
        have hlt := hb s' List.mem_cons_self
        refine ⟨s'.i, mem_ready.2 ⟨?_, ops[s'.i], by simp [hlt], fun e he hbn => ?_⟩⟩
        · have : s'.i < l.size := by rw [hsz]; exact hlt
          simp [this] at hl ⊢
          exact hl
        · have hd : e.on ∈ dirs ops s'.i := by
            unfold dirs
            simp only [Array.getElem?_eq_getElem hlt]
            refine List.mem_map.2 ⟨e, List.mem_filter.2 ⟨by simpa using he, hbn⟩, rfl⟩
          obtain ⟨x, hx, e2⟩ := List.mem_map.1 (h1 _ hd)
          cases hv : l.getD e.on false with
          | true => rfl
          | false => exact absurd ⟨x, hx, by rw [e2]; exact hv⟩ hr
      · exact absurd ⟨s', hs', hl⟩ hr

def lfOf (l : Array Bool) : LF := fun i => l.getD i false

theorem lf_set {l : Array Bool} {i : Nat} (h : i < l.size) : lfOf (l.setIfInBounds i true) = (lfOf l).add i := by
  funext j
  unfold lfOf
  by_cases e : j = i
  · subst e
    rw [LF.add_same]
    simp [h]
  · rw [LF.add_ne _ e]
    exact getD_set_ne false (fun e2 => e e2.symm)

theorem xDraw_ok (hC : COk P G0 C) (hGm : ∀ m m' : Ren, m.sub m' → G0 m → G0 m') (hN : ∀ m, G0 m → Glob N m) {dp : DP} (hok : dpOK ops dp = true) {st st' : St} {e e' : Ev} (hs : Sim m st w) (he : ER m e ρ) (hg : G0 m)
    (h : xDraw P N C ops dp e st = some (e', st')) {K : Env → World → Prop} (hk : ∀ m' ρ' w', m.le m' → ER m' e' ρ' → Sim m' st' w' → K ρ' w') : anyI P ops ρ w K := by
  unfold xDraw at h
  split at h <;> try (cases h; done)
  rename_i ptE hfold
  cases h
  unfold dpOK at hok
  obtain ⟨hok, h3⟩ := Bool.and_eq_true_iff.1 hok
  obtain ⟨ht, h2⟩ := Bool.and_eq_true_iff.1 hok
  have hall : ∀ i, i < ops.size → i ∈ dp.steps.map (·.i) := fun i hi => has_iff.1 (List.all_eq_true.1 h3 i (List.mem_range.2 hi))
  refine ⟨fun l ρ w => l.size = ops.size ∧ Closed ops (lfOf l) ∧ ∃ bef rem pt mm, headFix rem ∧ Cond P N C ops dp.tbl e st.next ptE m bef rem pt (lfOf l) ρ w mm, ?_, ?_, ?_⟩
  · refine ⟨by simp, fun i hi => ?_, ?_⟩
    · unfold lfOf at hi
      rw [Array.getD_eq_getD_getElem?, Array.getElem?_replicate] at hi
      split at hi <;> cases hi
    · have hlf : ∀ i, lfOf (Array.replicate ops.size false) i = false := fun i => by
        unfold lfOf
        rw [Array.getD_eq_getD_getElem?, Array.getElem?_replicate]
        split <;> rfl
      obtain ⟨bef, rem, pt, q1, q2⟩ := advance (P := P) (N := N) (C := C) (ops := ops) (tbl := dp.tbl) (e0 := e) (base := st.next) (ptE := ptE) (m := m) (L := lfOf (Array.replicate ops.size false)) (ρ := ρ) (w := w.drew) (m' := m) dp.steps [] ⟨st, e, [], [], [], []⟩
        ⟨hfold, h2, rfl, trivial, fun s _ => hlf s.i, fun i hi => .inr (hall i hi),
          ⟨fun b hb => (hs.fresh b hb).2, fun q hq => (by cases hq), List.Pairwise.nil, fun q hq => (by cases hq), rfl, List.Pairwise.nil, fun r hr => (by cases hr), fun p hp => (by cases hp), trivial, Nat.le_refl _, fun q hq => (by cases hq)⟩,
          ⟨Ren.le.refl m, hs.drew.toH, fun b hb => (hs.fresh b hb).1, fun q hq => (by cases hq), hs.res, he, fun i hi => (by cases hi)⟩⟩
      exact ⟨bef, rem, pt, m, q1, q2⟩
  · rintro l ρ w ⟨hsz, hcl, bef, rem, pt, mm, hh, hc⟩ hr
    have hbsz : ∀ s ∈ bef, s.i < ops.size := fun s hs => by
      rw [← hc.rs] at hs
      obtain ⟨r, hr, rfl⟩ := List.mem_map.1 hs
      exact hc.wf.sz r hr
    have hin : ∀ s ∈ bef, lfOf l s.i = true := fun s hs => by
      cases hq : lfOf l s.i with
      | true => rfl
      | false =>
        obtain ⟨i, hi⟩ := some_ready hsz hc.chain hbsz ⟨s, hs, hq⟩
        rw [hr] at hi
        cases hi
    cases rem with
    | cons s r =>
      exfalso
      obtain ⟨g1, g2, g3, g4⟩ := step_of hc.ord hc.rs
      have : s.i ∈ Region.ready .any ops l := by
        refine mem_ready.2 ⟨?_, ops[s.i]'g1.sz, by simp [g1.sz], fun e he hbn => ?_⟩
        · have h1 := hc.lo s List.mem_cons_self
          have : s.i < l.size := by rw [hsz]; exact g1.sz
          unfold lfOf at h1
          simp [this] at h1 ⊢
          exact h1
        · have hd : e.on ∈ dirs ops s.i := by
            unfold dirs
            simp only [Array.getElem?_eq_getElem g1.sz]
            refine List.mem_map.2 ⟨e, List.mem_filter.2 ⟨by simpa using he, hbn⟩, rfl⟩
          obtain ⟨x, hx, e2⟩ := List.mem_map.1 (g2 _ hd)
          rw [← e2]
          exact hin x hx
      rw [hr] at this
      cases this
    | nil =>
      have hf := hc.fold
      unfold dfold at hf
      cases hf
      have hrs : ∀ r ∈ ptE.rs, lfOf l r.s.i = true := fun r hr => hin r.s (by rw [← hc.rs]; exact List.mem_map_of_mem hr)
      have hids : ∀ i ∈ ptE.rs.map (·.s.i), lfOf l i = true := fun i hi => by
        obtain ⟨r, hr, rfl⟩ := List.mem_map.1 hi
        exact hrs r hr
      have hh : ∀ b, hL ptE (lfOf l) b = ptE.C.heap.get b := by
        intro b
        unfold hL
        cases hp : pnAt ptE.pn b with
        | none => rfl
        | some q =>
          obtain ⟨g1, g2⟩ := pnAt_some hp
          show cont _ q _ = _
          unfold cont
          rw [hids _ (hc.wf.mine q g1).1, cond_true]
          cases hi : q.ins with
          | nil => rw [g2]
          | cons y ys =>
            obtain ⟨bk, q1, _, q2⟩ := (hc.wf.names q g1).2
            rw [← g2, q1, q2 (by rw [hi]; exact List.cons_ne_nil _ _)]
            have : q.ins.filter (fun x => lfOf l x.1) = q.ins := List.filter_eq_self.2 fun x hx => hids _ ((hc.wf.keys q g1).2.2 x hx).2
            unfold insL
            rw [this, List.length_map]
      have hsim : Sim mm ptE.C w := hc.g.sim.view (fun b k hb _ => by rw [hh]; exact hb) (fun b hb => ⟨hc.g.fresh b hb, hc.wf.nx b hb⟩) (fun b hb => by
        rw [hc.g.le.R] at hb
        obtain ⟨q1, q2⟩ := hc.g.res b hb
        exact ⟨q1, Nat.lt_of_lt_of_le q2 hc.wf.bs⟩)
      refine hk mm ρ w hc.g.le ?_ hsim
      rw [hc.wf.env, ← EL_congr (L := lfOf l) fun q hq => hrs q hq]
      exact hc.g.er
  · rintro l ρ w ⟨hsz, hcl, bef, rem, pt, mm, hh, hc⟩ i hi
    obtain ⟨hun, o, ho, hdone⟩ := mem_ready.1 hi
    have hlt : i < ops.size := (Array.getElem?_eq_some_iff.1 ho).1
    have hltl : i < l.size := by rw [hsz]; exact hlt
    have hLi : lfOf l i = false := by
      unfold lfOf
      simp [hltl] at hun ⊢
      exact hun
    have hd : ∀ d ∈ dirs ops i, lfOf l d = true := by
      intro d hd
      unfold dirs at hd
      rw [ho] at hd
      obtain ⟨e, he, rfl⟩ := List.mem_map.1 hd
      obtain ⟨h1, h2⟩ := List.mem_filter.1 he
      exact hdone e (by simpa using h1) h2
    have hcl' : Closed ops (lfOf (l.setIfInBounds i true)) := by
      rw [lf_set hltl]
      intro j hj d hdj
      by_cases e : d = i
      · rw [e]; exact LF.add_same _ _
      · rw [LF.add_ne _ e]
        by_cases e2 : j = i
        · rw [e2] at hdj; exact hd d hdj
        · rw [LF.add_ne _ e2] at hj; exact hcl j hj d hdj
    have hsz' : (l.setIfInBounds i true).size = ops.size := by simpa using hsz
    by_cases hb : i ∈ bef.map (·.i)
    · have hb' : i ∈ pt.rs.map (·.s.i) := by rw [rs_ids hc.rs]; exact hb
      refine exec_light ht hc.wf hcl hc.g (hN mm (hGm _ _ hc.g.le.sub hg)) hb' hLi hd fun ρ' w' m2 hG2 => ?_
      rw [← lf_set hltl] at hG2
      refine ⟨hsz', hcl', bef, rem, pt, m2, hh, hc.fold, hc.ord, hc.rs, hc.chain, fun s hs => ?_, hc.all, hc.wf, hG2⟩
      rw [lf_set hltl, LF.add_ne]
      · exact hc.lo s hs
      · intro e
        have hi2 := hc.ord
        have : ∀ {bef rem : List DS}, orderOK ops dp.tbl bef rem = true → s ∈ rem → ∀ x ∈ bef, x.i ≠ s.i := by
          intro bef rem
          induction rem generalizing bef with
          | nil => intro _ h; cases h
          | cons y rem ih =>
            intro hor hmem x hx
            unfold orderOK at hor
            obtain ⟨hor, k5⟩ := Bool.and_eq_true_iff.1 hor
            obtain ⟨hor, k4⟩ := Bool.and_eq_true_iff.1 hor
            obtain ⟨hor, k3⟩ := Bool.and_eq_true_iff.1 hor
            rcases List.mem_cons.1 hmem with e | hmem
            · subst e
              have := rel_of (q := ⟨s, undef⟩) (r := ⟨x, undef⟩) (List.all_eq_true.1 k3 x hx)
              exact fun e => this.1 e.symm
            · exact ih k5 hmem x (List.mem_cons_of_mem _ hx)
        obtain ⟨x, hx, e3⟩ := List.mem_map.1 hb
        exact this hc.ord hs x hx (e3.trans e.symm)
    · have hr := (hc.all i hlt).resolve_left hb
      cases rem with
      | nil => cases hr
      | cons s r =>
        obtain ⟨g1, g2, g3, g4⟩ := step_of hc.ord hc.rs
        obtain ⟨g, hg4⟩ := hh
        have hi : i = s.i := by
          rw [List.map_cons] at hr
          rcases List.mem_cons.1 hr with e | hr
          · exact e
          · exfalso
            obtain ⟨s', hs', e⟩ := List.mem_map.1 hr
            have := tbl_in ht hcl i hlt hd _ (by rw [← e]; exact g4 g hg4 s' hs')
            rw [hc.lo s List.mem_cons_self] at this
            cases this
        subst hi
        have hf := hc.fold
        unfold dfold at hf
        split at hf <;> try (cases hf; done)
        rename_i pt1 hs1
        refine exec_fix hC hGm hN ht g1 hc.wf hcl hc.g hg hg4 hLi hd hs1 fun ρ' w' m2 hwf hG2 => ?_
        rw [← lf_set hltl] at hG2
        have hne : ∀ x ∈ r, x.i ≠ s.i := by
          have : ∀ {bef rem : List DS}, orderOK ops dp.tbl bef rem = true → ∀ y ∈ bef, ∀ x ∈ rem, x.i ≠ y.i := by
            intro bef rem
            induction rem generalizing bef with
            | nil => intro _ y _ x h; cases h
            | cons z rem ih =>
              intro hor y hy x hmem
              unfold orderOK at hor
              obtain ⟨hor, k5⟩ := Bool.and_eq_true_iff.1 hor
              obtain ⟨hor, k4⟩ := Bool.and_eq_true_iff.1 hor
              obtain ⟨hor, k3⟩ := Bool.and_eq_true_iff.1 hor
              rcases List.mem_cons.1 hmem with e | hmem
              · subst e
                have := rel_of (q := ⟨x, undef⟩) (r := ⟨y, undef⟩) (List.all_eq_true.1 k3 y hy)
                exact this.1
              · exact ih k5 y (List.mem_cons_of_mem _ hy) x hmem
          exact fun x hx => this g3 s List.mem_cons_self x hx
        obtain ⟨bef', rem', pt', q1, q2⟩ := advance r (s :: bef) pt1 (L := lfOf (l.setIfInBounds s.i true)) ⟨hf, g3, by rw [dstep_rs hs1, hc.rs], ⟨g2, hc.chain⟩, fun x hx => by
            rw [lf_set hltl, LF.add_ne _ (hne x hx)]
            exact hc.lo x (List.mem_cons_of_mem _ hx), fun i hi => by
            rcases hc.all i hi with q | q
            · exact .inl (by rw [List.map_cons]; exact List.mem_cons_of_mem _ q)
            · rw [List.map_cons] at q
              rcases List.mem_cons.1 q with q | q
              · exact .inl (by rw [List.map_cons, q]; exact List.mem_cons_self)
              · exact .inr q, hwf, hG2⟩
        exact ⟨hsz', hcl', bef', rem', pt', m2, q1, q2⟩

end

end Go.X

/-
  THE EXECUTOR, part 24: code, whole; ranges over functions; functions. Own work; generic in the program.
-/
set_option linter.unusedVariables false
set_option maxRecDepth 20000
namespace Go.X
open Go Go.V Go.RowKit

abbrev Res := Exit × Ev × List Nat × St

structure XT where
  t : Tab := {}
  dr : List (Nat × DP) := []

abbrev Ctx := List (Nat × (St → List Value → Option (Value × St)))
abbrev Funs := Ctx → St → Nat → List Value → Option (Value × St)
abbrev Hook := St → Nat → List Value → Option (Value × St)

structure GOK (N : Nat) (G : Ren → Prop) : Prop where
  mono : ∀ m m' : Ren, m.sub m' → G m → G m'
  glob : ∀ m, G m → Glob N m

def CtxOK (P : Program) (G : Ren → Prop) (ctx : Ctx) : Prop := ∀ l rd, (l, rd) ∈ ctx → ∀ m st st' w as as' v (K : Value → World → Prop), Sim m st w → G m → VRs m as as' → rd st as = some (v, st') → Out m st' v K → ∃ a, m l = some a ∧ Round P a.blk as'.toArray w K

def FsOK (P : Program) (N : Nat) (Fs : Funs) : Prop := ∀ ctx (G : Ren → Prop), GOK N G → CtxOK P G ctx → ∀ m st st' w g as as' v (K : Value → World → Prop), Sim m st w → G m → VRs m as as' → Fs ctx st g as = some (v, st') → Out m st' v K → Ret P g as'.toArray w K

def HkOK (P : Program) (N : Nat) (H : Hook) : Prop := ∀ m st st' w g as as' v (K : Value → World → Prop), Sim m st w → Glob N m → VRs m as as' → H st g as = some (v, st') → Out m st' v K → CallK P g as'.toArray w K

def lookC : Ctx → Nat → Option (St → List Value → Option (Value × St))
  | [], _ => none
  | (l, rd) :: r, i => bif Nat.beq l i then some rd else lookC r i

theorem lookC_mem {i : Nat} {rd : St → List Value → Option (Value × St)} : ∀ {ctx : Ctx}, lookC ctx i = some rd → (i, rd) ∈ ctx
  | [], h => by cases h
  | (l, r0) :: r, h => by
    unfold lookC at h
    cases hb : Nat.beq l i with
    | true => rw [hb, cond_true] at h; cases h; rw [Nat.eq_of_beq_eq_true hb]; exact List.mem_cons_self
    | false => rw [hb, cond_false] at h; exact List.mem_cons_of_mem _ (lookC_mem h)

noncomputable def callerOf (H : Hook) (Fs : Funs) (ctx : Ctx) : Caller := fun st f as =>
  match f with
  | .func (.func g) first cap => match H st g (first.toList ++ as ++ cap.toList) with
    | some r => some r
    | none => Fs ctx st g (first.toList ++ as ++ cap.toList)
  | .func (.yield l) first _ => match lookC ctx l with
    | some rd => rd st (first.toList ++ as)
    | none => none
  | _ => none

theorem callerOf_ok {P : Program} {N : Nat} {H : Hook} {Fs : Funs} (hH : HkOK P N H) (hF : FsOK P N Fs) {ctx : Ctx} {G : Ren → Prop} (hG : GOK N G) (hx : CtxOK P G ctx) : COk P G (callerOf H Fs ctx) := by
  intro m st st' w f f' as as' v K hs hg hf ha h hk
  unfold callerOf at h
  split at h <;> try (cases h; done)
  · cases hf with
    | fn h1 h2 =>
      unfold vCallV
      simp only
      split at h
      · rename_i r hr
        cases h
        exact hH m st st' w _ _ _ v K hs (hG.glob m hg) ((h1.append ha).append h2) hr hk
      · exact .inl (hF ctx G hG hx m st st' w _ _ _ v K hs hg ((h1.append ha).append h2) h hk)
  · split at h <;> try (cases h; done)
    rename_i rd hrd
    cases hf with
    | yld hl =>
      unfold vCallV
      simp only
      obtain ⟨a, q1, q2⟩ := hx _ rd (lookC_mem hrd) m st st' w _ _ v K hs hg (VRs.nil.append ha) h hk
      rw [hl] at q1
      cases q1
      exact q2

def putsE (e : Ev) : List Nat → List Value → Ev
  | t :: ts, v :: vs => putsE (putE e (some t) v) ts vs
  | _, _ => e

theorem putsE_ok {m : Ren} : ∀ {ts : List Nat} {vs vs' : List Value} {e : Ev} {ρ : Env}, VRs m vs vs' → ER m e ρ → ER m (putsE e ts vs) (putAll ρ ts vs')
  | [], _, _, e, ρ, _, he => by unfold putsE putAll; exact he
  | t :: ts, _, _, e, ρ, .nil, he => by unfold putsE putAll; exact he
  | t :: ts, _, _, e, ρ, .cons hx hs, he => by
    unfold putsE putAll
    exact putsE_ok hs (he.put hx (some t))

def jump (ex : Exit) : Option (Option Code) :=
  match ex with
  | .normal => some none
  | .ret => some (some .ret)
  | .exit id => some (some (.exit id))
  | _ => none

noncomputable def xEnd (b : Code) (l : Nat) (e : Ev) (ds : List Nat) (st : St) : Option Res :=
  match st.heap.get l with
  | some (.loop .busy _) => none
  | some (.loop _ pe) => match pe with
    | none => some (.normal, e, ds, st.put l (.loop .exhausted pe))
    | some .ret => bif hasRet b then some (.ret, e, ds, st.put l (.loop .exhausted pe)) else none
    | some (.exit id) => bif (exitsOf b).any (Nat.beq id) then some (.exit id, e, ds, st.put l (.loop .exhausted pe)) else none
    | _ => none
  | _ => none

noncomputable def xRound (xa xb : Ev → St → Option Res) (l : Nat) (ps : List Nat) (e0 : Ev) (st : St) (as : List Value) : Option (Value × St) :=
  match st.heap.get l with
  | some (.loop .ready none) => bif Nat.beq as.length ps.length then match xa (putsE e0 ps as) st with
    | some (.normal, e1, [], st1) => match st1.heap.get l with
      | some (.loop .ready none) => match xb e1 (st1.put l (.loop .busy none)) with
        | some (ex, _, _, st2) => match st2.heap.get l, jump ex with
          | some (.loop .busy none), some j => some (.bool j.isNone, st2.put l (.loop (if j.isNone then .ready else .done) j))
          | _, _ => none
        | none => none
      | _ => none
    | _ => none
    else none
  | _ => none

noncomputable def xCode (P : Program) (N : Nat) (H : Hook) (Fs : Funs) (T : XT) : Nat → Ctx → Option Nat → Code → Ev → List Nat → St → Option Res
  | 0, _, _, _, _, _, _ => none
  | n + 1, ctx, r, c, e, ds, st => match c with
    | .skip => some (.normal, e, ds, st)
    | .region id ops draw => match draw with
      | false => match xOps P N (callerOf H Fs ctx) (ops.toList.map (·.dst)) ops.toList [] e st with
        | some (e', st') => some (.normal, e', ds, st')
        | none => none
      | true => match V.look T.t.plan id, V.look T.dr id with
        | none, some dp => match xDraw P N (callerOf H Fs ctx) ops dp e st with
          | some (e', st') => some (.normal, e', ds, st')
          | none => none
        | _, _ => none
    | .seq a b => match xCode P N H Fs T n ctx r a e ds st with
      | some (.normal, e1, ds1, st1) => match V.look T.t.join (V.keyOf b) with
        | none => xCode P N H Fs T n ctx r b e1 ds1 st1
        | some sel => xCode P N H Fs T n ctx r b (restr sel e1) ds1 st1
      | x => x
    | .cond c a b => match evX N e c with
      | some (.bool t) => bif t then xCode P N H Fs T n ctx r a e ds st else xCode P N H Fs T n ctx r b e ds st
      | _ => none
    | .block id c => match xCode P N H Fs T n ctx r c e ds st with
      | some (.exit i, e1, ds1, st1) => bif Nat.beq i id then some (.normal, e1, ds1, st1) else some (.exit i, e1, ds1, st1)
      | x => x
    | .loop c => match xCode P N H Fs T n ctx r c (restr ((V.look T.t.sel (V.keyOf c)).getD []) e) ds st with
      | some (.normal, e1, ds1, st1) => xCode P N H Fs T n ctx r (.loop c) e1 ds1 st1
      | x => x
    | .exit id => some (.exit id, e, ds, st)
    | .ret => some (.ret, e, ds, st)
    | .label _ => some (.normal, e, ds, st)
    | .scope c => match xCode P N H Fs T n ctx r c e ds st with
      | some (.goto _, _, _, _) => none
      | x => x
    | .rangeFunc f ps a b => match evX N e f with
      | some (.func (.func g) first cap) => match r with
        | none => match Fs ((st.next + 1, xRound (fun e s => xCode P N H Fs T n ctx (some (st.next + 1)) a e [] s) (fun e s => xCode P N H Fs T n ctx (some (st.next + 1)) b e [] s) (st.next + 1) ps.toList (restr ((V.look T.t.sel (V.keyOf (.rangeFunc f ps a b))).getD []) e)) :: ctx)
            ((st.new .defer).new (.loop .ready none)) g (first.toList ++ [.func (.yield (st.next + 1)) #[] #[]] ++ cap.toList) with
          | some (_, st1) => xEnd b (st.next + 1) e (st.next :: ds) st1
          | none => none
        | some l0 => match st.heap.get l0 with
          | some (.loop _ _) => match Fs ((st.next, xRound (fun e s => xCode P N H Fs T n ctx (some st.next) a e [] s) (fun e s => xCode P N H Fs T n ctx (some st.next) b e [] s) st.next ps.toList (restr ((V.look T.t.sel (V.keyOf (.rangeFunc f ps a b))).getD []) e)) :: ctx)
              (st.new (.loop .ready none)) g (first.toList ++ [.func (.yield st.next) #[] #[]] ++ cap.toList) with
            | some (_, st1) => xEnd b st.next e ds st1
            | none => none
          | _ => none
      | _ => none
    | _ => none

def okDr (T : XT) : Code → Bool
  | .region id ops draw => !draw || (match V.look T.dr id with
    | some dp => dpOK ops dp
    | none => true)
  | .seq a b => okDr T a && okDr T b
  | .cond _ a b => okDr T a && okDr T b
  | .block _ c => okDr T c
  | .loop c => okDr T c
  | .scope c => okDr T c
  | .rangeFunc _ _ a b => okDr T a && okDr T b
  | _ => true

def RR (m : Ren) (r r' : Option Nat) : Prop :=
  match r, r' with
  | none, none => True
  | some l, some c => ∃ a, m l = some a ∧ a.blk = c
  | _, _ => False

theorem RR.up {m m' : Ren} (h : m.sub m') {r r' : Option Nat} (hr : RR m r r') : RR m' r r' := by
  unfold RR at hr ⊢
  split at hr
  · trivial
  · obtain ⟨a, h1, h2⟩ := hr
    exact ⟨a, h.at_ _ _ h1, h2⟩
  · exact hr.elim

theorem loop_get {m : Ren} {st : St} {w : World} (hs : Sim m st w) {l : Nat} {s : LoopState} {pe : Option Code} {a : At} (ha : m l = some a) (hb : st.heap.get l = some (.loop s pe)) {rec : Loop} (hl : m.lp a.blk = some rec) :
    w.heap[a.blk]? = some (.loop { rec with state := s, pending := pe }) := by
  obtain ⟨a', o, h1, h2, h3⟩ := hs.obj l _ hb (by intro e; cases e)
  rw [ha] at h1
  cases h1
  unfold ObjR at h3
  split at h3
  · rename_i e; cases e
  · rename_i e; cases e
  · rename_i e; cases e
  · rename_i e
    cases e
    obtain ⟨r0, h4, rfl⟩ := h3
    rw [hl] at h4
    cases h4
    exact h2
  · rename_i e; cases e
  · rename_i e; cases e
  · rename_i e; cases e
  · rename_i e; cases e
  · exact h3.elim

theorem loop_put {m : Ren} {st : St} {w : World} (hs : Sim m st w) {l : Nat} {s s' : LoopState} {pe pe' : Option Code} {a : At} (ha : m l = some a) (hb : st.heap.get l = some (.loop s pe)) {rec : Loop} (hl : m.lp a.blk = some rec) :
    Sim m (st.put l (.loop s' pe')) (w.putObj a.blk (.loop { rec with state := s', pending := pe' })) :=
  hs.put hb (by intro e; cases e) ha ⟨rec, hl, rfl⟩

theorem jump_ok {ex : Exit} {j : Option Code} (h : jump ex = some j) {K : Option Code → Prop} (hk : K j) : jumpV ex K := by
  unfold jump at h
  unfold jumpV
  split at h <;> (cases h; try exact hk)

structure LK (G : Ren → Prop) (l : Nat) (a : At) (rec : Loop) (e : Ev) (sel : List Nat) (init : List Value) (r r' : Option Nat) (m : Ren) : Prop where
  g : G m
  at_ : m l = some a
  lp : m.lp a.blk = some rec
  sr : SR m e sel init

theorem SR.up {m m' : Ren} (h : m.sub m') {e : Ev} {sel : List Nat} {vs : List Value} (hs : SR m e sel vs) : SR m' e sel vs := fun j d v h1 h2 => let ⟨v', h3, h4⟩ := hs j d v h1 h2; ⟨v', h3, h4.imp h.at_⟩

theorem LK.gok {N : Nat} {G : Ren → Prop} (hG : GOK N G) (l : Nat) (a : At) (rec : Loop) (e : Ev) (sel : List Nat) (init : List Value) (r r' : Option Nat) : GOK N (LK G l a rec e sel init r r') :=
  ⟨fun m m' h k => ⟨hG.mono m m' h k.g, h.at_ _ _ k.at_, h.lp _ _ k.lp, k.sr.up h⟩, fun m k => hG.glob m k.g⟩

theorem xEnd_ok {m : Ren} {b : Code} {l : Nat} {e : Ev} {ds : List Nat} {st : St} {w : World} {a : At} {rec : Loop} (hs : Sim m st w) (ha : m l = some a) (hl : m.lp a.blk = some rec) {ex : Exit} {e' : Ev} {ds' : List Nat} {st' : St}
    (h : xEnd b l e ds st = some (ex, e', ds', st')) {ρ : Env} {D : List Nat} {Q : QV} (hd : DR m ds D) (he : ER m e ρ)
    (hk : ∀ m' ρ' D' w', m.le m' → ER m' e' ρ' → DR m' ds' D' → Sim m' st' w' → Q ex ρ' D' w') :
    endV a.blk rec w (fun w' => Q .normal ρ D w') (fun w' => onlyIf (hasRet b) (fun ds' w' => Q .ret ρ ds' w') D w') (fun id w' => exV ((exitsOf b).map fun j => (j, fun ds' w' => Q (.exit j) ρ ds' w')) D id w') := by
  unfold xEnd at h
  split at h <;> try (cases h; done)
  rename_i s pe hnb hb
  have hw := loop_get hs ha hb hl
  have hs' := loop_put (s' := .exhausted) (pe' := pe) hs ha hb hl
  refine ⟨s, pe, hw, fun e => hnb (by rw [e]), ?_⟩
  split at h <;> try (cases h; done)
  · cases h
    exact hk m ρ D _ (Ren.le.refl m) he hd hs'
  · cases hr : hasRet b with
    | false => rw [hr, cond_false] at h; cases h
    | true =>
      rw [hr, cond_true] at h
      cases h
      exact hk m ρ D _ (Ren.le.refl m) he hd hs'
  · rename_i id
    cases hr : (exitsOf b).any (Nat.beq id) with
    | false => rw [hr, cond_false] at h; cases h
    | true =>
      rw [hr, cond_true] at h
      cases h
      have hfin := hk m ρ D _ (Ren.le.refl m) he hd hs'
      show exV _ D id _
      generalize exitsOf b = l at hr
      induction l with
      | nil => cases hr
      | cons j r ih =>
        simp only [List.map_cons, exV]
        cases hj : Nat.beq j id with
        | true => rw [cond_true, Nat.eq_of_beq_eq_true hj]; exact hfin
        | false =>
          rw [cond_false]
          refine ih ?_
          have e1 : Nat.beq id j = false := by
            cases h2 : Nat.beq id j
            · rfl
            · rw [Nat.eq_of_beq_eq_true h2, Nat.beq_refl] at hj; cases hj
          simpa [e1] using hr

theorem xRound_ok {N : Nat} {G : Ren → Prop} (hG : GOK N G) {sel : List Nat} {init : List Value} {asg : Option Nat → Env → World → QV → Prop} {bdy : Option Nat → Env → World → (Exit → World → Prop) → Prop} {xa xb : Ev → St → Option Res} {l : Nat} {a : At} {rec : Loop} {e : Ev} {r r' : Option Nat}
    {ps : List Nat} {ρb : Env} (hst : rec.state = .ready) (hpe : rec.pending = none) (hinit : sel.map ρb = init)
    (ha : ∀ m e0 e' ds' st st' ex ρ w (Q : QV), Sim m st w → ER m e0 ρ → LK G l a rec e sel init r r' m → xa e0 st = some (ex, e', ds', st') → (∀ m' ρ' D' w', m.le m' → ER m' e' ρ' → DR m' ds' D' → Sim m' st' w' → Q ex ρ' D' w') → asg (some a.blk) ρ w Q)
    (hb : ∀ m e0 e' ds' st st' ex ρ w (Q : Exit → World → Prop), Sim m st w → ER m e0 ρ → LK G l a rec e sel init r r' m → xb e0 st = some (ex, e', ds', st') → (∀ m' w', m.le m' → Sim m' st' w' → Q ex w') → bdy (some a.blk) ρ w Q)
    {m : Ren} {st st' : St} {w : World} {as as' : List Value} {v : Value} {K : Value → World → Prop} (hs : Sim m st w) (hg : LK G l a rec e sel init r r' m) (hv : VRs m as as') (h : xRound xa xb l ps (restr sel e) st as = some (v, st')) (hk : Out m st' v K) :
    roundV a.blk rec ps asg bdy ρb as' w K := by
  obtain ⟨s0, p0, f0, t0, pa0, as0, bo0, d0⟩ := rec
  cases (show s0 = .ready from hst)
  cases (show p0 = none from hpe)
  unfold xRound at h
  split at h <;> try (cases h; done)
  rename_i h0
  cases hlen : Nat.beq as.length ps.length with
  | false => rw [hlen, cond_false] at h; cases h
  | true =>
    rw [hlen, cond_true] at h
    split at h <;> try (cases h; done)
    rename_i e1 st1 h1
    split at h <;> try (cases h; done)
    rename_i h2
    split at h <;> try (cases h; done)
    rename_i ex e2 ds2 st2 h3
    split at h <;> try (cases h; done)
    rename_i j h4 h5
    cases h
    have hw0 := loop_get hs hg.at_ h0 hg.lp
    refine ⟨by rw [← hv.length]; exact Nat.eq_of_beq_eq_true hlen, hw0, ?_⟩
    have hsr := hg.sr
    rw [← hinit] at hsr
    refine ha m _ _ _ _ _ _ _ _ _ hs (putsE_ok hv hsr.er) hg h1 fun m1 ρ1 D1 w1 hm1 he1 hd1 hs1 => ?_
    have hg1 : LK G l a _ e sel init r r' m1 := (LK.gok hG ..).mono m m1 hm1.sub hg
    have hw1 := loop_get hs1 hg1.at_ h2 hg1.lp
    cases hd1
    refine ⟨rfl, rfl, hw1, ?_⟩
    refine hb m1 _ _ _ _ _ _ _ _ _ (loop_put hs1 hg1.at_ h2 hg1.lp) he1 hg1 h3 fun m2 w2 hm2 hs2 => ?_
    have hg2 : LK G l a _ e sel init r r' m2 := (LK.gok hG ..).mono m1 m2 hm2.sub hg1
    have hw2 := loop_get hs2 hg2.at_ h4 hg2.lp
    refine ⟨?_, ?_⟩
    · exact hw2
    · refine jump_ok h5 ?_
      exact hk m2 _ _ (hm1.trans hm2) (.bool _) (loop_put hs2 hg2.at_ h4 hg2.lp)

end Go.X
