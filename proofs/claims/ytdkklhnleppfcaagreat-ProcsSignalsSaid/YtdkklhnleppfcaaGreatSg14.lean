/-
  THE EXECUTOR, part 25: code is sound, whole; functions. Own work; generic in the program.
-/
import Derived.Test.YtdkklhnleppfcaaGreatSg13
import Derived.Laws.Externs
set_option linter.unusedVariables false
set_option linter.unusedSimpArgs false

set_option linter.unusedVariables false
set_option maxRecDepth 20000
namespace Go.X
open Go Go.V Go.RowKit

theorem vr_fn {m : Ren} {g : FuncId} {f c : Array Value} {y : Value} (h : VR m (.func (.func g) f c) y) : ∃ f' c' : List Value, y = .func (.func g) ⟨f'⟩ ⟨c'⟩ ∧ VRs m f.toList f' ∧ VRs m c.toList c' := by
  cases h with
  | fn h1 h2 => exact ⟨_, _, rfl, h1, h2⟩

theorem xCode_ok {P : Program} {N : Nat} {H : Hook} {Fs : Funs} (hH : HkOK P N H) (hF : FsOK P N Fs) {T : XT} :
    ∀ (n : Nat) (c : Code) {ctx : Ctx} {G : Ren → Prop} (hG : GOK N G) (hx : CtxOK P G ctx) {m : Ren} {e e' : Ev} {ds ds' : List Nat} {st st' : St} {ex : Exit} {r r' : Option Nat} {ρ : Env} {D : List Nat} {w : World} {Q : QV},
      okDr T c = true → Sim m st w → ER m e ρ → G m → DR m ds D → RR m r r' → xCode P N H Fs T n ctx r c e ds st = some (ex, e', ds', st') →
      (∀ m' ρ' D' w', m.le m' → ER m' e' ρ' → DR m' ds' D' → Sim m' st' w' → Q ex ρ' D' w') → codeV P T.t c r' ρ D w Q
  | 0, c, ctx, G, hG, hx, m, e, e', ds, ds', st, st', ex, r, r', ρ, D, w, Q, hok, hs, he, hg, hd, hr, h, hk => by cases h
  | n + 1, c, ctx, G, hG, hx, m, e, e', ds, ds', st, st', ex, r, r', ρ, D, w, Q, hok, hs, he, hg, hd, hr, h, hk => by
    have ih := @xCode_ok P N H Fs hH hF T n
    have hC : COk P G (callerOf H Fs ctx) := callerOf_ok hH hF hG hx
    unfold xCode at h
    cases c <;> simp only at h <;> try (cases h; done)
    case skip => cases h; exact hk m ρ D w (Ren.le.refl m) he hd hs
    case region id ops draw =>
      cases draw <;> simp only at h
      · split at h <;> try (cases h; done)
        rename_i e1 st1 h1
        cases h
        exact xOps_ok hC hG.mono hG.glob ops.toList hs he hg h1 fun m' ρ' w' hm he' hs' => hk m' ρ' D w' hm he' (hd.up hm) hs'
      · split at h <;> try (cases h; done)
        rename_i dp h0 hdp
        split at h <;> try (cases h; done)
        rename_i e1 st1 h1
        cases h
        unfold codeV
        simp only
        unfold drawV
        rw [h0]
        unfold okDr at hok
        rw [hdp] at hok
        exact xDraw_ok hC hG.mono hG.glob (by simpa using hok) hs he hg h1 fun m' ρ' w' hm he' hs' => hk m' ρ' D w' hm he' (hd.up hm) hs'
    case seq a b =>
      unfold okDr at hok
      obtain ⟨hoa, hob⟩ := Bool.and_eq_true_iff.1 hok
      unfold codeV
      split at h
      · rename_i e1 ds1 st1 h1
        split at h
        · rename_i hj
          simp only [hj]
          refine ih a hG hx hoa hs he hg hd hr h1 fun m1 ρ1 D1 w1 hm1 he1 hd1 hs1 => ?_
          exact ih b hG hx hob hs1 he1 (hG.mono _ _ hm1.sub hg) hd1 (hr.up hm1.sub) h fun m2 ρ2 D2 w2 hm2 he2 hd2 hs2 => hk m2 ρ2 D2 w2 (hm1.trans hm2) he2 hd2 hs2
        · rename_i sel hj
          simp only [hj]
          refine ⟨fun vs D1 w1 => ∃ m1, m.le m1 ∧ SR m1 e1 sel vs ∧ DR m1 ds1 D1 ∧ Sim m1 st1 w1, ?_, fun ρ1 D1 w1 ⟨m1, hm1, hr1, hd1, hs1⟩ => ?_⟩
          · exact ih a hG hx hoa hs he hg hd hr h1 fun m1 ρ1 D1 w1 hm1 he1 hd1 hs1 => ⟨m1, hm1, SR.of he1 sel, hd1, hs1⟩
          · exact ih b hG hx hob hs1 hr1.er (hG.mono _ _ hm1.sub hg) hd1 (hr.up hm1.sub) h fun m2 ρ2 D2 w2 hm2 he2 hd2 hs2 => hk m2 ρ2 D2 w2 (hm1.trans hm2) he2 hd2 hs2
      · rename_i hx'
        have hne : ex ≠ .normal := by
          intro e0
          subst e0
          exact hx' _ _ _ h
        split
        · refine ih a hG hx hoa hs he hg hd hr h fun m1 ρ1 D1 w1 hm1 he1 hd1 hs1 => ?_
          cases ex <;> first | exact absurd rfl hne | exact hk m1 ρ1 D1 w1 hm1 he1 hd1 hs1
        · refine ⟨fun _ _ _ => False, ?_, fun _ _ _ h => h.elim⟩
          refine ih a hG hx hoa hs he hg hd hr h fun m1 ρ1 D1 w1 hm1 he1 hd1 hs1 => ?_
          cases ex <;> first | exact absurd rfl hne | exact hk m1 ρ1 D1 w1 hm1 he1 hd1 hs1
    case cond c a b =>
      unfold okDr at hok
      obtain ⟨hoa, hob⟩ := Bool.and_eq_true_iff.1 hok
      split at h <;> try (cases h; done)
      rename_i t ht
      have e1 := vr_bool (evX_ok he (hG.glob m hg) ht)
      unfold codeV
      rw [e1]
      show (if t = true then _ else _)
      cases t
      · exact ih b hG hx hob hs he hg hd hr h hk
      · exact ih a hG hx hoa hs he hg hd hr h hk
    case block id c =>
      unfold okDr at hok
      unfold codeV
      split at h
      · rename_i i e1 ds1 st1 h1
        refine ih c hG hx hok hs he hg hd hr h1 fun m1 ρ1 D1 w1 hm1 he1 hd1 hs1 => ?_
        show (bif Nat.beq i id then _ else _)
        cases hb : Nat.beq i id with
        | true => rw [hb] at h; cases h; exact hk m1 ρ1 D1 w1 hm1 he1 hd1 hs1
        | false => rw [hb] at h; cases h; exact hk m1 ρ1 D1 w1 hm1 he1 hd1 hs1
      · rename_i hx'
        refine ih c hG hx hok hs he hg hd hr h fun m1 ρ1 D1 w1 hm1 he1 hd1 hs1 => ?_
        cases ex <;> first | exact absurd h (hx' _ _ _ _) | exact hk m1 ρ1 D1 w1 hm1 he1 hd1 hs1
    case exit id => cases h; exact hk m ρ D w (Ren.le.refl m) he hd hs
    case ret => cases h; exact hk m ρ D w (Ren.le.refl m) he hd hs
    case label l => cases h; exact hk m ρ D w (Ren.le.refl m) he hd hs
    case scope c =>
      unfold okDr at hok
      unfold codeV
      split at h
      · cases h
      · rename_i hx'
        refine ih c hG hx hok hs he hg hd hr h fun m1 ρ1 D1 w1 hm1 he1 hd1 hs1 => ?_
        cases ex <;> first | exact absurd h (hx' _ _ _ _) | exact hk m1 ρ1 D1 w1 hm1 he1 hd1 hs1
    case loop c =>
      unfold okDr at hok
      have hl : xCode P N H Fs T (n + 1) ctx r (.loop c) e ds st = some (ex, e', ds', st') := by unfold xCode; exact h
      unfold codeV
      generalize hsel : (V.look T.t.sel (V.keyOf c)).getD [] = sel
      refine loop_of (fun k vs D1 w1 => ∃ m1 e1 ds1 st1, m.le m1 ∧ SR m1 e1 sel vs ∧ DR m1 ds1 D1 ∧ Sim m1 st1 w1 ∧ k ≤ n + 1 ∧ xCode P N H Fs T k ctx r (.loop c) e1 ds1 st1 = some (ex, e', ds', st'))
        ⟨n + 1, m, e, ds, st, Ren.le.refl m, SR.of he sel, hd, hs, Nat.le_refl _, hl⟩ fun k ρ1 D1 w1 R hJ hR => ?_
      obtain ⟨m1, e1, ds1, st1, hm1, hr1, hd1, hs1, hk1, hx1⟩ := hJ
      match k, hk1, hx1 with
      | 0, _, hx1 => cases hx1
      | k + 1, hk1, hx1 =>
        unfold xCode at hx1
        simp only [hsel] at hx1
        split at hx1
        · rename_i e2 ds2 st2 h2
          refine xCode_ok hH hF k c hG hx hok hs1 hr1.er (hG.mono _ _ hm1.sub hg) hd1 (hr.up hm1.sub) h2 fun m2 ρ2 D2 w2 hm2 he2 hd2 hs2 => ?_
          exact hR _ _ _ k (Nat.lt_succ_self k) ⟨m2, e2, ds2, st2, hm1.trans hm2, SR.of he2 sel, hd2, hs2, by omega, hx1⟩
        · rename_i hne
          refine xCode_ok hH hF k c hG hx hok hs1 hr1.er (hG.mono _ _ hm1.sub hg) hd1 (hr.up hm1.sub) hx1 fun m2 ρ2 D2 w2 hm2 he2 hd2 hs2 => ?_
          cases ex <;> first | exact absurd hx1 (hne _ _ _) | exact hk m2 ρ2 D2 w2 (hm1.trans hm2) he2 hd2 hs2
    case rangeFunc f ps a b =>
      unfold okDr at hok
      obtain ⟨hoa, hob⟩ := Bool.and_eq_true_iff.1 hok
      split at h <;> try (cases h; done)
      rename_i g first cap hfv
      unfold codeV
      generalize hsel : (V.look T.t.sel (V.keyOf (.rangeFunc f ps a b))).getD [] = sel at *
      obtain ⟨f', c', hev, hf1, hc1⟩ := vr_fn (evX_ok he (hG.glob m hg) hfv)
      unfold rangeF
      -- what all loops share
      have key : ∀ (l : Nat) (al : At) (rec : Loop) (m1 : Ren) (st1 : St) (w1 : World) (ds1 : List Nat) (D1 : List Nat) (ρb : Env), m.le m1 → m1 l = some al → m1.lp al.blk = some rec → Sim m1 st1 w1 → rec.state = .ready → rec.pending = none → sel.map ρb = sel.map ρ → DR m1 ds1 D1 →
          (∀ args W K, roundV al.blk rec ps.toList (fun r' ρ' w' Q' => codeV P T.t a r' ρ' [] w' Q') (fun r' ρ' w' Q' => codeV P T.t b r' ρ' [] w' fun e _ _ w'' => Q' e w'') ρb args W K → Round P al.blk args.toArray W K) →
          ∀ v st2, Fs ((l, xRound (fun e s => xCode P N H Fs T n ctx (some l) a e [] s) (fun e s => xCode P N H Fs T n ctx (some l) b e [] s) l ps.toList (restr sel e)) :: ctx) st1 g (first.toList ++ [.func (.yield l) #[] #[]] ++ cap.toList) = some (v, st2) →
          xEnd b l e ds1 st2 = some (ex, e', ds', st') →
          vRetV P (ev ρ f) [.func (.yield al.blk) #[] #[]] w1 fun _ w2 => endV al.blk rec w2 (fun w' => Q .normal ρ D1 w') (fun w' => onlyIf (hasRet b) (fun ds' w' => Q .ret ρ ds' w') D1 w') (fun id w' => exV ((exitsOf b).map fun j => (j, fun ds' w' => Q (.exit j) ρ ds' w')) D1 id w') := by
        intro l al rec m1 st1 w1 ds1 D1 ρb hle hal hlp hs1 hst hpe hin hd1 hround v st2 hF2 hend
        rw [hev]
        unfold vRetV
        simp only
        have hlk := LK.gok hG l al rec e sel (sel.map ρ) r r'
        have hlk1 : LK G l al rec e sel (sel.map ρ) r r' m1 := ⟨hG.mono _ _ hle.sub hg, hal, hlp, (SR.of he sel).up hle.sub⟩
        refine hF _ _ hlk ?_ m1 st1 st2 w1 g _ _ v _ hs1 hlk1 ((hf1.up hle |>.append (.cons (.yld hal) .nil)).append (hc1.up hle)) hF2 fun m2 v' w2 hm2 hv2 hs2 => ?_
        · intro l2 rd hmem m2 s2 s3 w2 as as' v2 K hs2 hlk2 hv2 hrd hk2
          rcases List.mem_cons.1 hmem with e1 | hmem
          · cases e1
            refine ⟨al, hlk2.at_, hround as' w2 K ?_⟩
            refine xRound_ok hG hst hpe hin (fun m3 e3 e4 ds4 st3 st4 ex4 ρ3 w3 Q3 hs3 he3 hlk3 hx3 hk3 => ?_) (fun m3 e3 e4 ds4 st3 st4 ex4 ρ3 w3 Q3 hs3 he3 hlk3 hx3 hk3 => ?_) hs2 hlk2 hv2 hrd hk2
            · exact ih a hG hx hoa hs3 he3 hlk3.g .nil (show RR m3 (some l) (some al.blk) from ⟨al, hlk3.at_, rfl⟩) hx3 hk3
            · exact ih b hG hx hob hs3 he3 hlk3.g .nil (show RR m3 (some l) (some al.blk) from ⟨al, hlk3.at_, rfl⟩) hx3 fun m4 ρ4 D4 w4 hm4 he4 hd4 hs4 => hk3 m4 w4 hm4 hs4
          · exact hx l2 rd hmem m2 s2 s3 w2 as as' v2 K hs2 hlk2.g hv2 hrd hk2
        · exact xEnd_ok hs2 (hm2.at_ _ _ hal) (hm2.lp _ _ hlp) hend (hd1.up hm2) (he.up (hle.trans hm2)) fun m3 ρ3 D3 w3 hm3 => hk m3 ρ3 D3 w3 ((hle.trans hm2).trans hm3)
      cases r with
      | none =>
        simp only at h
        cases r' with
        | some _ => exact hr.elim
        | none =>
          split at h <;> try (cases h; done)
          rename_i v st2 hF2
          simp only
          intro rec ρb hst hpe hin hround
          obtain ⟨q1, q2⟩ := hs.new (o := .deferred (some [])) (k := .defer) (off := 0) (extra := 0) trivial
          have hsz : (w.alloc (.deferred (some []))).heap.size = w.heap.size + 1 := by show (w.heap.push _).size = _; simp
          obtain ⟨q3, q4⟩ := q2.newG (o := .loop rec) (k := .loop .ready none) (off := 0) (extra := 0) (lp := fun c => if c = w.heap.size + 1 then some rec else m.lp c)
            (fun c r hc => by
              show (if _ then _ else _) = _
              have : c < w.heap.size := hs.lpl c r hc
              rw [if_neg (by omega)]
              exact hc)
            (fun c r hc => by
              rw [hsz]
              have hc' : (if c = w.heap.size + 1 then some rec else m.lp c) = some r := hc
              split at hc'
              · omega
              · have : c < w.heap.size := hs.lpl c r hc'
                omega)
            ⟨rec, by rw [hsz]; exact if_pos rfl, by rw [← hst, ← hpe]⟩
          rw [hsz] at q3 q4
          refine key (st.next + 1) ⟨w.heap.size + 1, 0, 0⟩ rec _ _ _ (st.next :: ds) (w.heap.size :: D) ρb (q1.trans q3) (if_pos rfl) (if_pos rfl) q4 hst hpe hin ?_ hround v st2 hF2 h
          refine .cons (a := ⟨w.heap.size, 0, 0⟩) ?_ rfl (hd.up (q1.trans q3))
          exact q3.at_ _ _ (Ren.add_same _ _ _)
      | some l0 =>
        simp only at h
        cases r' with
        | none => exact hr.elim
        | some c0 =>
          split at h <;> try (cases h; done)
          rename_i s0 pe0 hl0
          split at h <;> try (cases h; done)
          rename_i v st2 hF2
          simp only
          obtain ⟨al0, g1, g2⟩ := hr
          refine ⟨?_, fun rec ρb hst hpe hin hround => ?_⟩
          · obtain ⟨a', o, h1, h2, h3⟩ := hs.obj l0 _ hl0 (by intro e; cases e)
            rw [g1] at h1
            cases h1
            unfold ObjR at h3
            split at h3
            · rename_i e; cases e
            · rename_i e; cases e
            · rename_i e; cases e
            · rename_i r0 _ _ e
              exact ⟨r0, by rw [← g2]; exact h2⟩
            · rename_i e; cases e
            · rename_i e; cases e
            · rename_i e; cases e
            · rename_i e; cases e
            · exact h3.elim
          · obtain ⟨q3, q4⟩ := hs.newG (o := .loop rec) (k := .loop .ready none) (off := 0) (extra := 0) (lp := fun c => if c = w.heap.size then some rec else m.lp c)
              (fun c r hc => by
                show (if _ then _ else _) = _
                have : c < w.heap.size := hs.lpl c r hc
                rw [if_neg (by omega)]
                exact hc)
              (fun c r hc => by
                have hc' : (if c = w.heap.size then some rec else m.lp c) = some r := hc
                split at hc'
                · omega
                · have : c < w.heap.size := hs.lpl c r hc'
                  omega)
              ⟨rec, if_pos rfl, by rw [← hst, ← hpe]⟩
            exact key st.next ⟨w.heap.size, 0, 0⟩ rec _ _ _ ds D ρb q3 (if_pos rfl) (if_pos rfl) q4 hst hpe hin (hd.up q3) hround v st2 hF2 h
  termination_by n => n

noncomputable def xLeave : List Nat → St → Option St
  | [], st => some st
  | d :: ds, st => match st.heap.get d with
    | some .defer => xLeave ds (st.put d .dead)
    | _ => none

theorem xLeave_ok {m : Ren} {K : World → Prop} : ∀ {ds D : List Nat} {st st' : St} {w : World}, Sim m st w → DR m ds D → xLeave ds st = some st' → (∀ w', Sim m st' w' → K w') → leaveV D w K
  | [], _, st, st', w, hs, .nil, h, hk => by
    cases h
    exact hk w hs
  | d :: ds, _, st, st', w, hs, .cons hm hc hd, h, hk => by
    unfold xLeave at h
    split at h <;> try (cases h; done)
    rename_i hb
    obtain ⟨a', o, h1, h2, h3⟩ := hs.obj d _ hb (by intro e; cases e)
    rw [hm] at h1
    cases h1
    subst hc
    unfold ObjR at h3
    split at h3
    · rename_i e; cases e
    · rename_i e; cases e
    · exact ⟨h2, xLeave_ok (hs.put hb (by intro e; cases e) hm (o' := .deferred none) (k' := .dead) (by unfold ObjR; split <;> first | trivial | (rename_i e; cases e))) hd h hk⟩
    · rename_i e; cases e
    · rename_i e; cases e
    · rename_i e; cases e
    · rename_i e; cases e
    · rename_i e; cases e
    · exact h3.elim

structure Told (P : Program) (good : Nat → Bool) (T : Nat → XT) : Prop where
  mixed : P.follows .mixedOrders = true
  ok : ∀ g fn, good g = true → P.funcs[g]? = some fn → Enters P g ∧ okF (T g).t fn 0 = true ∧ (∀ c, fn.body = some c → okDr (T g) c = true)

noncomputable def xFun (P : Program) (N : Nat) (good : Nat → Bool) (T : Nat → XT) (H : Hook) (fuel : Nat) (Fs : Funs) : Funs := fun ctx st g as =>
  bif good g then match P.funcs[g]? with
    | some fn => match fn.body with
      | some c => bif Nat.ble as.length fn.ntmps then match xCode P N H Fs (T g) fuel ctx none c (envX 0 as) [] st with
        | some (.normal, e, ds, st1) => match xLeave ds st1 with
          | some st2 => match xRes P st2 e fn.results.toList [] with
            | some v => some (v, st2)
            | none => none
          | none => none
        | some (.ret, e, ds, st1) => match xLeave ds st1 with
          | some st2 => match xRes P st2 e fn.results.toList [] with
            | some v => some (v, st2)
            | none => none
          | none => none
        | _ => none
        else none
      | none => none
    | none => none
  else none

theorem xFun_ok {P : Program} {N : Nat} {good : Nat → Bool} {T : Nat → XT} {H : Hook} {fuel : Nat} {Fs : Funs} (ht : Told P good T) (hH : HkOK P N H) (hF : FsOK P N Fs) : FsOK P N (xFun P N good T H fuel Fs) := by
  intro ctx G hG hx m st st' w g as as' v K hs hg ha h hk
  unfold xFun at h
  cases hgood : good g with
  | false => rw [hgood, cond_false] at h; cases h
  | true =>
    rw [hgood, cond_true] at h
    split at h <;> try (cases h; done)
    rename_i fn hfn
    split at h <;> try (cases h; done)
    rename_i c hc
    cases hle : Nat.ble as.length fn.ntmps with
    | false => rw [hle, cond_false] at h; cases h
    | true =>
      rw [hle, cond_true] at h
      obtain ⟨hE, hok, hdr⟩ := ht.ok g fn hgood hfn
      have hok' : okF (T g).t fn as'.length = true := by
        unfold okF at hok ⊢
        rw [hc] at hok ⊢
        simp only [Bool.and_eq_true] at hok ⊢
        exact ⟨hok.1, by rw [← ha.length]; exact hle⟩
      refine enter_sound hfn hE ht.mixed hok' ?_
      unfold enterV
      rw [hc]
      simp only
      have fin : ∀ {e1 : Ev} {ds1 : List Nat} {st1 st2 : St} {m1 : Ren} {ρ1 : Env} {D1 : List Nat} {w1 : World}, m.le m1 → xLeave ds1 st1 = some st2 → xRes P st2 e1 fn.results.toList [] = some v → st' = st2 → ER m1 e1 ρ1 → DR m1 ds1 D1 → Sim m1 st1 w1 → finV P fn ρ1 D1 w1 K := by
        intro e1 ds1 st1 st2 m1 ρ1 D1 w1 hm1 hl hres hst he1 hd1 hs1
        subst hst
        unfold finV
        exact xLeave_ok hs1 hd1 hl fun w2 hs2 => xRes_ok hs2 he1 fn.results.toList .nil hres fun v' hv' => hk m1 _ _ hm1 hv' hs2
      split at h
      · rename_i e1 ds1 st1 h1
        split at h <;> try (cases h; done)
        rename_i st2 hl
        split at h <;> try (cases h; done)
        rename_i u hu
        cases h
        exact xCode_ok hH hF fuel c hG hx (hdr c hc) hs (envX_ok ha) hg .nil (show RR m none none from trivial) h1 fun m1 ρ1 D1 w1 hm1 he1 hd1 hs1 => fin hm1 hl hu rfl he1 hd1 hs1
      · rename_i e1 ds1 st1 h1
        split at h <;> try (cases h; done)
        rename_i st2 hl
        split at h <;> try (cases h; done)
        rename_i u hu
        cases h
        exact xCode_ok hH hF fuel c hG hx (hdr c hc) hs (envX_ok ha) hg .nil (show RR m none none from trivial) h1 fun m1 ρ1 D1 w1 hm1 he1 hd1 hs1 => fin hm1 hl hu rfl he1 hd1 hs1
      · cases h

noncomputable def funs (P : Program) (N : Nat) (good : Nat → Bool) (T : Nat → XT) (H : Hook) (fuel : Nat) : Nat → Funs
  | 0 => fun _ _ _ _ => none
  | n + 1 => xFun P N good T H fuel (funs P N good T H fuel n)

theorem funs_ok {P : Program} {N : Nat} {good : Nat → Bool} {T : Nat → XT} {H : Hook} {fuel : Nat} (ht : Told P good T) (hH : HkOK P N H) : ∀ n, FsOK P N (funs P N good T H fuel n)
  | 0 => fun ctx G hG hx m st st' w g as as' v K hs hg ha h hk => by cases h
  | n + 1 => xFun_ok ht hH (funs_ok ht hH n)

end Go.X

/-
  THE EXECUTOR, part 26: functions of the library that answer in place. Own work; generic in the program.
-/
set_option linter.unusedVariables false
set_option maxRecDepth 20000
namespace Go.X
open Go Go.V Go.RowKit

structure Ins where
  indexByte : Nat
  cmpString : Nat
  noEscape : Nat

def InsOK (P : Program) (g : Nat) (e : Array Value → Sem Value) : Prop :=
  ∃ fn, P.funcs[g]? = some fn ∧ (fn.name == "runtime.NumGoroutine") = false ∧ fn.body.isNone = true ∧ Extern.findNext fn = none ∧ Extern.find fn = some e

structure InsTold (P : Program) (I : Ins) : Prop where
  indexByte : InsOK P I.indexByte Extern.BytealgIndexByte.indexByte
  cmpString : InsOK P I.cmpString Extern.BytealgCompare.compare
  noEscape : InsOK P I.noEscape Extern.AbiNoEscape.same

theorem InsOK.call {P : Program} {g : Nat} {e : Array Value → Sem Value} (h : InsOK P g e) {args : Array Value} {w w' : World} {v : Value} {K : Value → World → Prop} (hr : (e args).run P w = .ok v w') (hk : K v w') : CallK P g args w K := by
  obtain ⟨fn, h1, h2, h3, h4, h5⟩ := h
  refine .inr ⟨v, w', ?_, hk⟩
  rw [run_callFunc_extern h1 h2 h3 h4 h5, hr]
  rfl

end Go.X

/-
  THE EXECUTOR, part 27: cuts. What is no longer of use may be dropped from the memory; a call that was run once is kept, with the memory before it and behind it. Own work; generic in the program.
-/
set_option linter.unusedVariables false
set_option maxRecDepth 20000
namespace Go.X
open Go Go.V Go.RowKit

def kdEq (k k' : IntKind) : Bool := decide (k = k')

def plEq (p q : Pl) : Bool := (p.plain == q.plain) && (p.ty == q.ty) && (p.z == q.z) && (p.ex == q.ex)

def ksEq : List (Int × Value) → List (Int × Value) → Bool
  | [], [] => true
  | (n, x) :: r, (m, y) :: s => (n == m) && veqA 1000 x y && ksEq r s
  | _, _ => false

def blkEq : Blk → Blk → Bool
  | .cells p n cs, .cells q m ds => plEq p q && Nat.beq n m && veqL 100000 cs ds
  | .mapI k ks cl none, .mapI k' ks' cl' none => kdEq k k' && ksEq ks ks' && Nat.beq cl cl'
  | .dead, .dead => true
  | _, _ => false

theorem ksEq_ok : ∀ {r s : List (Int × Value)}, ksEq r s = true → r = s
  | [], [], _ => rfl
  | [], _ :: _, h => by cases h
  | _ :: _, [], h => by cases h
  | (n, x) :: r, (m, y) :: s, h => by
    unfold ksEq at h
    simp only [Bool.and_eq_true, beq_iff_eq] at h
    obtain ⟨⟨h1, h2⟩, h3⟩ := h
    rw [h1, veqA_ok h2, ksEq_ok h3]

theorem plEq_ok {p q : Pl} (h : plEq p q = true) : p = q := by
  unfold plEq at h
  simp only [Bool.and_eq_true, beq_iff_eq] at h
  obtain ⟨⟨⟨h1, h2⟩, h3⟩, h4⟩ := h
  cases p; cases q
  simp_all

theorem blkEq_ok {k k' : Blk} (h : blkEq k k' = true) : k = k' := by
  unfold blkEq at h
  split at h
  · simp only [Bool.and_eq_true] at h
    obtain ⟨⟨h1, h2⟩, h3⟩ := h
    rw [plEq_ok h1, Nat.eq_of_beq_eq_true h2, veqL_ok h3]
  · simp only [Bool.and_eq_true] at h
    obtain ⟨⟨h1, h2⟩, h3⟩ := h
    rw [of_decide_eq_true h1, ksEq_ok h2, Nat.eq_of_beq_eq_true h3]
  · rfl
  · cases h

def trLe : Tr Blk → Tr Blk → Bool
  | .leaf, _ => true
  | .node l none r, .node l' _ r' => trLe l l' && trLe r r'
  | .node l (some k) r, .node l' (some k') r' => blkEq k k' && (trLe l l' && trLe r r')
  | _, _ => false

theorem trLe_ok : ∀ {t t' : Tr Blk}, trLe t t' = true → ∀ b k, t.get b = some k → t'.get b = some k
  | .leaf, _, _, b, k, hb => by rw [get_leaf] at hb; cases hb
  | .node l none r, .leaf, h, b, k, hb => by cases h
  | .node l (some _) r, .leaf, h, b, k, hb => by cases h
  | .node l none r, .node l' v' r', h, b, k, hb => by
    unfold trLe at h
    obtain ⟨h1, h2⟩ := Bool.and_eq_true_iff.1 h
    cases b with
    | zero => rw [get_zero] at hb; cases hb
    | succ b =>
      rw [get_succ] at hb ⊢
      split at hb
      · rename_i e; rw [if_pos e]; exact trLe_ok h2 _ _ hb
      · rename_i e; rw [if_neg e]; exact trLe_ok h1 _ _ hb
  | .node l (some x) r, .node l' none r', h, b, k, hb => by cases h
  | .node l (some x) r, .node l' (some x') r', h, b, k, hb => by
    unfold trLe at h
    obtain ⟨h0, h⟩ := Bool.and_eq_true_iff.1 h
    obtain ⟨h1, h2⟩ := Bool.and_eq_true_iff.1 h
    cases b with
    | zero => rw [get_zero] at hb ⊢; rw [← blkEq_ok h0]; exact hb
    | succ b =>
      rw [get_succ] at hb ⊢
      split at hb
      · rename_i e; rw [if_pos e]; exact trLe_ok h2 _ _ hb
      · rename_i e; rw [if_neg e]; exact trLe_ok h1 _ _ hb

def stLe (s s' : St) : Bool := Nat.beq s.next s'.next && trLe s.heap s'.heap

theorem stLe_ok {s s' : St} (h : stLe s s' = true) {m : Ren} {w : World} (hs : Sim m s' w) : Sim m s w := by
  obtain ⟨h1, h2⟩ := Bool.and_eq_true_iff.1 h
  have hn := Nat.eq_of_beq_eq_true h1
  have hg := trLe_ok h2
  refine ⟨fun b k hb hd => hs.obj b k (hg b k hb) hd, fun b b' k k' a a' hb hd hb' hd' => hs.inj b b' k k' a a' (hg b k hb) hd (hg b' k' hb') hd', fun b hb => ?_, hs.lt, hs.fr, fun b k a hb => hs.own b k a (hg b k hb), fun b hb => by rw [hn]; exact hs.res b hb, hs.lpl⟩
  rw [hn] at hb
  refine ⟨(hs.fresh b hb).1, ?_⟩
  cases e : s.heap.get b with
  | none => rfl
  | some k => rw [← (hs.fresh b hb).2, hg b k e]

def lI (n : Int) : Value := .int .i64 n
def lP (b o : Nat) : Value := .pointer (some ⟨b, o, none⟩)
def lS (b o n k : Nat) : Value := .slice (some ⟨b, o, none⟩) n k
def lM (b : Nat) : Value := .map (some b)
def lA (l : List Value) : Value := .agg ⟨l⟩
def lT (l : List Value) : Value := .tuple ⟨l⟩
def lX (l : List UInt8) : Value := .string ⟨⟨l⟩⟩
def lNS : Value := .slice none 0 0
def lNP : Value := .pointer none
def lB (b t es : Nat) (cs : List Value) : Nat × Blk := (b, .cells ⟨true, some t, true, true⟩ es cs)
def lC (b : Nat) (p : Bool) (t : Option Nat) (z x : Bool) (es : Nat) (cs : List Value) : Nat × Blk := (b, .cells ⟨p, t, z, x⟩ es cs)
def lK (b : Nat) (k : IntKind) (ks : List (Int × Value)) (cl : Nat) : Nat × Blk := (b, .mapI k ks cl none)

structure Mem where
  g : Nat
  as : List Value
  pre : St
  v : Value
  post : St

def MemOK (P : Program) (N : Nat) (M : Mem) : Prop := ∀ m w as' (K : Value → World → Prop), Sim m M.pre w → Glob N m → VRs m M.as as' → Out m M.post M.v K → Ret P M.g as'.toArray w K

noncomputable def memT (Fs : Funs) (M : Mem) : Bool :=
  match Fs [] M.pre M.g M.as with
  | some (v, st) => veqA 1000 M.v v && stLe M.post st
  | none => false

theorem mem_ok {P : Program} {N : Nat} {Fs : Funs} (hF : FsOK P N Fs) {M : Mem} (h : memT Fs M = true) : MemOK P N M := by
  intro m w as' K hs hg ha hk
  unfold memT at h
  split at h <;> try (cases h; done)
  rename_i v st hr
  obtain ⟨h1, h2⟩ := Bool.and_eq_true_iff.1 h
  refine hF [] (Glob N) ⟨fun m m' hm hg g hlt => hm.at_ _ _ (hg g hlt), fun m hg => hg⟩ (fun l rd hm => by cases hm) m _ _ w _ _ _ v K hs hg ha hr ?_
  rw [veqA_ok h1] at hk
  exact fun m' v' w' hm hv hs' => hk m' v' w' hm hv (stLe_ok h2 hs')

noncomputable def memo : List Mem → Hook
  | [] => fun _ _ _ => none
  | M :: r => fun st g as => bif Nat.beq g M.g && (Nat.beq st.next M.pre.next && (veqL 1000 M.as as && stLe M.pre st)) then some (M.v, M.post) else memo r st g as

theorem memo_ok {P : Program} {N : Nat} : ∀ {l : List Mem}, (∀ M ∈ l, MemOK P N M) → HkOK P N (memo l)
  | [], _ => fun m st st' w g as as' v K hs hg ha h hk => by cases h
  | M :: r, hl => fun m st st' w g as as' v K hs hg ha h hk => by
    have h : (bif Nat.beq g M.g && (Nat.beq st.next M.pre.next && (veqL 1000 M.as as && stLe M.pre st)) then some (M.v, M.post) else memo r st g as) = some (v, st') := h
    cases hb : (Nat.beq g M.g && (Nat.beq st.next M.pre.next && (veqL 1000 M.as as && stLe M.pre st))) with
    | false => rw [hb, cond_false] at h; exact memo_ok (fun x hx => hl x (List.mem_cons_of_mem _ hx)) m st st' w g as as' v K hs hg ha h hk
    | true =>
      rw [hb, cond_true] at h
      cases h
      obtain ⟨h1, h2⟩ := Bool.and_eq_true_iff.1 hb
      obtain ⟨h2, h3⟩ := Bool.and_eq_true_iff.1 h2
      obtain ⟨h3, h4⟩ := Bool.and_eq_true_iff.1 h3
      rw [Nat.eq_of_beq_eq_true h1]
      rw [← veqL_ok h3] at ha
      exact .inl (hl M List.mem_cons_self m w as' K (stLe_ok h4 hs) hg ha hk)

noncomputable def orH (a b : Hook) : Hook := fun st g as => match a st g as with
  | some r => some r
  | none => b st g as

theorem orH_ok {P : Program} {N : Nat} {a b : Hook} (ha : HkOK P N a) (hb : HkOK P N b) : HkOK P N (orH a b) := by
  intro m st st' w g as as' v K hs hg hv h hk
  unfold orH at h
  split at h
  · rename_i r hr
    cases h
    exact ha m st st' w g as as' v K hs hg hv hr hk
  · exact hb m st st' w g as as' v K hs hg hv h hk

end Go.X

/-
  THE EXECUTOR, part 28: what must be told of a program's functions. Own work; generic in the program.
-/
set_option linter.unusedVariables false
set_option maxRecDepth 20000
namespace Go.X
open Go Go.V Go.RowKit

def AllE (P : Program) : List Nat → Prop
  | [] => True
  | g :: r => Enters P g ∧ AllE P r

theorem AllE.of {P : Program} : ∀ {l : List Nat}, AllE P l → ∀ g ∈ l, Enters P g
  | [], _, g, h => by cases h
  | x :: r, ⟨h1, h2⟩, g, h => by
    rcases List.mem_cons.1 h with e | e
    · rw [e]; exact h1
    · exact AllE.of h2 g e

noncomputable def chk1 (P : Program) (T : Nat → XT) (g : Nat) : Bool :=
  match P.funcs[g]? with
  | some fn => okF (T g).t fn 0 && (match fn.body with
    | some c => okDr (T g) c
    | none => true)
  | none => true

noncomputable def chkL (P : Program) (T : Nat → XT) : List Nat → Bool
  | [] => true
  | g :: r => chk1 P T g && chkL P T r

theorem chkL_ok {P : Program} {T : Nat → XT} : ∀ {l : List Nat}, chkL P T l = true → ∀ g ∈ l, chk1 P T g = true
  | [], _, g, h => by cases h
  | x :: r, hc, g, h => by
    obtain ⟨h1, h2⟩ := Bool.and_eq_true_iff.1 hc
    rcases List.mem_cons.1 h with e | e
    · rw [e]; exact h1
    · exact chkL_ok h2 g e

def goodL (l : List Nat) (g : Nat) : Bool := l.any (Nat.beq g)

theorem told_of {P : Program} {T : Nat → XT} {l : List Nat} (hm : P.follows .mixedOrders = true) (he : AllE P l) (hc : chkL P T l = true) : Told P (goodL l) T := by
  refine ⟨hm, fun g fn hg hf => ?_⟩
  obtain ⟨x, hx, hb⟩ := List.any_eq_true.1 hg
  rw [Nat.eq_of_beq_eq_true hb]
  rw [Nat.eq_of_beq_eq_true hb] at hf
  have h1 := chkL_ok hc x hx
  unfold chk1 at h1
  rw [hf] at h1
  obtain ⟨h2, h3⟩ := Bool.and_eq_true_iff.1 h1
  refine ⟨he.of x hx, h2, fun c e => ?_⟩
  rw [e] at h3
  exact h3

end Go.X

/-
  THE EXECUTOR, part 29: a run from the empty memory, in whatever world; some blocks of the world may have names. Own work; generic in the program.
-/
set_option linter.unusedVariables false
set_option maxRecDepth 20000
namespace Go.X
open Go Go.V Go.RowKit

def ren0 (N : Nat) (ex : List At) (w : World) : Ren := ⟨fun b => if b < N then some ⟨b, 0, 0⟩ else ex[b - N]?, w, fun _ => False, fun _ => False, fun _ => none⟩

theorem ren0_glob (N : Nat) (ex : List At) (w : World) : Glob N (ren0 N ex w) := fun g hg => if_pos hg

theorem sim0 {N : Nat} {ex : List At} {w : World} (hN : N ≤ w.heap.size) (hex : ∀ a ∈ ex, a.blk < w.heap.size) : Sim (ren0 N ex w) ⟨.leaf, N + ex.length⟩ w := by
  refine ⟨fun b k hb => ?_, fun b b' k k' a a' hb => ?_, fun b hb => ⟨?_, get_leaf b⟩, fun b a ha => ?_, Fr.refl _ _, fun b k a hb => ?_, fun b hb => hb.elim, fun c r hc => by cases hc⟩
  · rw [get_leaf] at hb; cases hb
  · rw [get_leaf] at hb; cases hb
  · have hb : N + ex.length ≤ b := hb
    show (if b < N then _ else _) = _
    rw [if_neg (by omega)]
    exact List.getElem?_eq_none (by omega)
  · have ha : (if b < N then some ⟨b, 0, 0⟩ else ex[b - N]?) = some a := ha
    split at ha
    · cases ha
      exact Nat.lt_of_lt_of_le (by assumption) hN
    · exact hex a (List.mem_of_getElem? ha)
  · rw [get_leaf] at hb; cases hb

end Go.X

/-
  THE EXECUTOR, part 30: its memory as one of the assertions of a walk, and calls that were run within a walk. Own work; generic in the program.
-/
set_option linter.unusedVariables false
set_option maxRecDepth 20000
namespace Go.X
open Go Go.V Go.RowKit

noncomputable def insT (l : List (Nat × Blk)) (t : Tr Blk) : Tr Blk := List.rec (motive := fun _ => Tr Blk) t (fun p _ t => t.set p.2 p.1) l

noncomputable def hookN (n : Nat) : Hook := fun st g as =>
  bif Nat.beq g n then match as with
    | [x] => some (x, st)
    | _ => none
  else none

theorem hookN_ok {P : Program} {N n : Nat} (hI : InsOK P n Extern.AbiNoEscape.same) : HkOK P N (hookN n) := by
  intro m st st' w g as as' v K hs hg ha h hk
  unfold hookN at h
  cases h3 : Nat.beq g n with
  | false => rw [h3, cond_false] at h; cases h
  | true =>
    rw [h3, cond_true] at h
    split at h <;> try (cases h; done)
    rename_i x
    cases h
    cases ha with
    | cons hx hr =>
      cases hr
      rw [Nat.eq_of_beq_eq_true h3]
      exact hI.call (w' := w) rfl (hk m _ _ (Ren.le.refl m) hx hs)

structure SimO (m : Ren) (s : St) (w : World) : Prop where
  obj : ∀ b k, s.heap.get b = some k → k ≠ .dead → ∃ a o, m b = some a ∧ w.heap[a.blk]? = some o ∧ ObjR m a o k
  inj : ∀ b b' k k' a a', s.heap.get b = some k → k ≠ .dead → s.heap.get b' = some k' → k' ≠ .dead → m b = some a → m b' = some a' → a.blk = a'.blk → b = b'
  fresh : ∀ b, s.next ≤ b → m b = none ∧ s.heap.get b = none
  lt : ∀ b a, m b = some a → a.blk < w.heap.size
  res : ∀ b, m.R b → m b = none ∧ b < s.next
  lpl : ∀ c r, m.lp c = some r → c < w.heap.size

theorem Sim.o {m : Ren} {s : St} {w : World} (h : Sim m s w) : SimO m s w := ⟨h.obj, h.inj, h.fresh, h.lt, h.res, h.lpl⟩

def owned (m : Ren) (s : St) (k : Nat) : Prop := ∃ b bk a, s.heap.get b = some bk ∧ bk ≠ .dead ∧ m b = some a ∧ a.blk = k

def Ren.now (m : Ren) (s : St) (w : World) : Ren := ⟨m.f, w, owned m s, m.R, m.lp⟩

theorem vr_f {m m' : Ren} (h : m.f = m'.f) {x y : Value} (hv : VR m x y) : VR m' x y := hv.imp fun b a e => by rw [← h]; exact e
theorem vrs_f {m m' : Ren} (h : m.f = m'.f) {x y : List Value} (hv : VRs m x y) : VRs m' x y := hv.imp fun b a e => by rw [← h]; exact e

theorem SimO.now {m : Ren} {s : St} {w : World} (h : SimO m s w) : Sim (m.now s w) s w := by
  refine ⟨fun b k hb hd => ?_, h.inj, h.fresh, h.lt, Fr.refl _ _, fun b k a hb hd ha => .inl ⟨b, k, a, hb, hd, ha, rfl⟩, h.res, h.lpl⟩
  obtain ⟨a, o, h1, h2, h3⟩ := h.obj b k hb hd
  exact ⟨a, o, h1, h2, ObjR.imp (m := m) (m' := m.now s w) (fun _ _ e => e) (fun _ _ e => e) h3⟩

theorem SimO.fr {m : Ren} {s : St} {w w' : World} {F : Nat → Prop} (h : SimO m s w) (f : Fr F w w') (hn : ∀ k, owned m s k → ¬ F k) : SimO m s w' := by
  refine ⟨fun b k hb hd => ?_, h.inj, h.fresh, fun b a ha => Nat.lt_of_lt_of_le (h.lt b a ha) f.size, h.res, fun c r hc => Nat.lt_of_lt_of_le (h.lpl c r hc) f.size⟩
  obtain ⟨a, o, h1, h2, h3⟩ := h.obj b k hb hd
  exact ⟨a, o, h1, f.get h2 (hn _ ⟨b, k, a, hb, hd, h1, rfl⟩), h3⟩

def As.st (N : Nat) (m : Ren) (s : St) : As :=
  ⟨owned m s, fun w => SimO m s w ∧ Glob N m, fun w h k ⟨b, bk, a, _, _, h3, h4⟩ => by rw [← h4]; exact h.1.lt b a h3, fun w w' F h f hn => ⟨h.1.fr f hn, h.2⟩⟩

variable {P : Program} {N : Nat} {F : Nat → Prop} {w0 w w' : World} {L : List As}

theorem sMem {M : Mem} (hM : MemOK P N M) (h : Lx F w0 w L) {i : Nat} {m : Ren} (hi : L[i]? = some (As.st N m M.pre)) {as' : List Value} (ha : VRs m M.as as') {K : Value → World → Prop}
    (k : ∀ m' v' w', (∀ b a, m b = some a → m' b = some a) → VR m' M.v v' → Lx F w0 w' (L.set i (As.st N m' M.post)) → K v' w') : CallK P M.g as'.toArray w K := by
  obtain ⟨hs, hg⟩ : SimO m M.pre w ∧ Glob N m := h.get hi
  refine Ret.call (hM (m.now M.pre w) w as' K hs.now hg (vrs_f (m := m) (m' := m.now M.pre w) rfl ha) fun m' v' w' hm hv hs' => ?_)
  have f : Fr (owned m M.pre) w w' := by
    have e := hs'.fr
    rw [hm.w0, hm.F] at e
    exact e
  refine k m' v' w' (fun b a e => hm.at_ b a e) hv (h.step (a' := As.st N m' M.post) hi f ⟨hs'.o, Glob.up hm hg⟩ fun k hk => ?_)
  obtain ⟨b, bk, a, h1, h2, h3, rfl⟩ := hk
  have e := hs'.own b bk a h1 h2 h3
  rw [hm.w0, hm.F] at e
  exact e

theorem Lx.st (h : Lx F w0 w L) {ex : List At} (hN : N ≤ w.heap.size) (hex : ∀ a ∈ ex, a.blk < w.heap.size) : Lx F w0 w (As.st N (ren0 N ex w) ⟨.leaf, N + ex.length⟩ :: L) :=
  h.add (a := As.st N (ren0 N ex w) ⟨.leaf, N + ex.length⟩) (Fr.refl _ _) ⟨(sim0 hN hex).o, ren0_glob N ex w⟩ fun k ⟨b, bk, a, h1, _⟩ => by rw [get_leaf] at h1; cases h1

theorem sLdX (h : Lx F w0 w L) {i : Nat} {m : Ren} {s : St} (hi : L[i]? = some (As.st N m s)) {d : LD} {x x' v : Value} (hx : VR m x x') (hv : xLd s d x = some v) {K : Value → Prop} (k : ∀ v', VR m v v' → K v') : vLd d x' w K := by
  obtain ⟨hs, hg⟩ : SimO m s w ∧ Glob N m := h.get hi
  exact xLd_ok hs.now (vr_f (m := m) (m' := m.now s w) rfl hx) hv fun v' hv' => k v' (vr_f (m := m.now s w) (m' := m) rfl hv')

theorem VR.bool_eq {m : Ren} {b : Bool} {v : Value} (h : VR m (.bool b) v) : v = .bool b := by cases h; rfl

end Go.X

/-
  THE EXECUTOR, part 31: numbers out of bytes, eight for each, at once: the plain function. Own work; generic in the program.
-/
set_option linter.unusedVariables false
set_option maxRecDepth 20000
namespace Go.X
open Go Go.V Go.RowKit

def leStep (n : Int) (b : UInt8) (i : Nat) : Int := bitsI .i64 (· ||| ·) n (IntKind.i64.wrap (IntKind.i64.wrap (b.toNat : Int) * 2 ^ (min (IntKind.i64.wrap (8 * (i : Int))).toNat IntKind.i64.bits)))
def leAcc (n : Int) (i : Nat) : List UInt8 → Int
  | [] => n
  | b :: r => leAcc (leStep n b i) (i + 1) r
def leInts : Nat → List UInt8 → List Int
  | 0, _ => []
  | k + 1, l => leAcc 0 0 (l.take 8) :: leInts k (l.drop 8)

theorem leAcc_snoc : ∀ (l : List UInt8) (n : Int) (i : Nat) (b : UInt8), leAcc n i (l ++ [b]) = leStep (leAcc n i l) b (i + l.length)
  | [], n, i, b => rfl
  | a :: r, n, i, b => by
    show leAcc (leStep n a i) (i + 1) (r ++ [b]) = _
    rw [leAcc_snoc r, List.length_cons]
    show leStep (leAcc (leStep n a i) (i + 1) r) b _ = leStep (leAcc (leStep n a i) (i + 1) r) b _
    congr 1
    omega

noncomputable def listH (g0 : Nat) : Hook := fun st g as =>
  bif Nat.beq g g0 then match as with
    | [.string s] => bif Nat.ble 8 s.data.toList.length && Nat.ble s.data.toList.length 100000 then
        some (.slice (some ⟨st.next, 0, none⟩) (s.data.toList.length / 8) (s.data.toList.length / 8 + far), st.new (.cells ⟨true, none, true, false⟩ 1 ((leInts (s.data.toList.length / 8) s.data.toList).map fun n => .int .i64 n)))
      else none
    | _ => none
  else none

theorem leInts_len : ∀ (k : Nat) (l : List UInt8), (leInts k l).length = k
  | 0, _ => rfl
  | k + 1, l => by show (leInts k _).length + 1 = k + 1; rw [leInts_len k]

theorem vrs_ints (m : Ren) : ∀ l : List Int, VRs m (l.map fun n => .int .i64 n) (l.map fun n => .int .i64 n)
  | [] => .nil
  | n :: r => .cons (.int _ _) (vrs_ints m r)

theorem Sim.giveRow {m : Ren} {s : St} {w w' : World} (h : Sim m s w) (f : Fr (fun _ => False) w w') {b : Nat} (hb : w.heap.size ≤ b) {xs rest : List Value} (hc : Cs w' b (xs ++ rest)) (hx : VRs m xs xs) :
    m.le (m.add s.next ⟨b, 0, rest.length⟩) ∧ Sim (m.add s.next ⟨b, 0, rest.length⟩) (s.new (.cells ⟨true, none, true, false⟩ 1 xs)) w' := by
  have hn := h.fresh s.next (Nat.le_refl _)
  have hle : m.le (m.add s.next ⟨b, 0, rest.length⟩) := Ren.add_le hn.1
  have hself := Ren.add_same m s.next ⟨b, 0, rest.length⟩
  have hne : ∀ x, x ≠ s.next → m.add s.next ⟨b, 0, rest.length⟩ x = m x := fun x hx => Ren.add_ne m _ hx
  have hw0 := h.fr.size
  have hget : ∀ x bk, (s.new (.cells ⟨true, none, true, false⟩ 1 xs)).heap.get x = some bk → (x = s.next ∧ bk = .cells ⟨true, none, true, false⟩ 1 xs) ∨ (x ≠ s.next ∧ s.heap.get x = some bk) := by
    intro x bk hx
    unfold St.new at hx
    simp only [get_set] at hx
    split at hx
    · rename_i e; cases hx; exact .inl ⟨e, rfl⟩
    · rename_i e; exact .inr ⟨e, hx⟩
  refine ⟨hle, ⟨fun x bk hx' hd => ?_, fun x x' k k' a a' hx1 hd hx2 hd' ha ha' e => ?_, fun x hx' => ?_, fun x a ha => ?_, h.fr.more f, fun x bk a hx' hd ha => ?_, fun x hx' => ?_, fun c r hc' => Nat.lt_of_lt_of_le (h.lpl c r hc') f.size⟩⟩
  · rcases hget x bk hx' with ⟨e, e2⟩ | ⟨e, hx'⟩
    · obtain ⟨T, ho⟩ := hc
      refine ⟨_, _, by rw [e]; exact hself, ho, ?_⟩
      rw [e2]
      refine ⟨fun i v hi => ?_, ?_, .inl rfl, ⟨fun _ => rfl, fun t ht => (by cases ht), fun _ => rfl, fun e => (by cases e)⟩⟩
      · obtain ⟨y, h1, h2⟩ := hx.get i hi
        refine ⟨y, ?_, h2.up hle⟩
        have hlt := (List.getElem?_eq_some_iff.1 h1).1
        show (xs ++ rest).toArray[0 + i]? = some y
        rw [Nat.zero_add, List.getElem?_toArray, List.getElem?_append_left hlt]
        exact h1
      · simp
    · obtain ⟨a, o, h1, h2, h3⟩ := h.obj x bk hx' hd
      exact ⟨a, o, by rw [hne x e]; exact h1, f.get h2 (fun e => e), h3.up hle⟩
  · rcases hget x k hx1 with ⟨e1, _⟩ | ⟨e1, hx1⟩ <;> rcases hget x' k' hx2 with ⟨e2, _⟩ | ⟨e2, hx2⟩
    · rw [e1, e2]
    · exfalso
      rw [e1, hself] at ha
      rw [hne x' e2] at ha'
      have := h.lt x' a' ha'
      cases ha
      simp only at e
      omega
    · exfalso
      rw [e2, hself] at ha'
      rw [hne x e1] at ha
      have := h.lt x a ha
      cases ha'
      simp only at e
      omega
    · rw [hne x e1] at ha
      rw [hne x' e2] at ha'
      exact h.inj x x' k k' a a' hx1 hd hx2 hd' ha ha' e
  · have hx' : s.next + 1 ≤ x := hx'
    have hf := h.fresh x (by omega)
    refine ⟨by rw [hne x (by omega)]; exact hf.1, ?_⟩
    show (s.heap.set _ s.next).get x = none
    rw [get_set, if_neg (by omega)]
    exact hf.2
  · by_cases e : x = s.next
    · rw [e, hself] at ha; cases ha; exact hc.lt
    · rw [hne x e] at ha; exact Nat.lt_of_lt_of_le (h.lt x a ha) f.size
  · rcases hget x bk hx' with ⟨e, _⟩ | ⟨e, hx'⟩
    · rw [e, hself] at ha
      cases ha
      exact .inr (Nat.le_trans hw0 hb)
    · rw [hne x e] at ha
      exact h.own x bk a hx' hd ha
  · obtain ⟨h1, h2⟩ := h.res x hx'
    exact ⟨by rw [hne x (by omega)]; exact h1, Nat.lt_succ_of_lt h2⟩

def ListOK (P : Program) (g0 : Nat) : Prop := ∀ (l : List UInt8) (w : World) (K : Value → World → Prop), 8 ≤ l.length → l.length ≤ 100000 →
  (∀ w' v b, Row w' v ((leInts (l.length / 8) l).map fun n => .int .i64 n) (some b) → w.heap.size ≤ b → Fr (fun _ => False) w w' → K v w') → CallK P g0 #[str l] w K

theorem listH_ok {P : Program} {N g0 : Nat} (hL : ListOK P g0) : HkOK P N (listH g0) := by
  intro m st st' w g vs vs' v K hs hg ha h hk
  unfold listH at h
  cases hb : Nat.beq g g0 with
  | false => rw [hb, cond_false] at h; cases h
  | true =>
    rw [hb, cond_true] at h
    split at h <;> try (cases h; done)
    rename_i s
    cases hc : (Nat.ble 8 s.data.toList.length && Nat.ble s.data.toList.length 100000) with
    | false => rw [hc, cond_false] at h; cases h
    | true =>
      rw [hc, cond_true] at h
      obtain ⟨h1, h2⟩ := Bool.and_eq_true_iff.1 hc
      have h1 := Nat.le_of_ble_eq_true h1
      have h2 := Nat.le_of_ble_eq_true h2
      rw [Nat.eq_of_beq_eq_true hb]
      cases ha with
      | cons hx hr =>
        cases hr
        cases hx
        cases h
        obtain ⟨⟨l⟩⟩ := s
        refine hL l w K h1 h2 fun w' v b hrow hb' hf => ?_
        obtain ⟨rest, hv, hcs⟩ := hrow
        obtain ⟨hle, hs'⟩ := hs.giveRow hf hb' hcs (vrs_ints m _)
        refine hk _ _ _ hle ?_ hs'
        rw [hv]
        have hln : ((leInts (l.length / 8) l).map fun n => Value.int .i64 n).length = l.length / 8 := by rw [List.length_map, leInts_len]
        rw [hln]
        have hsl := VR.sl (m := m.add st.next ⟨b, 0, rest.length⟩) (b := st.next) (o := 0) (n := l.length / 8) (k := l.length / 8 + far) (Ren.add_same m st.next ⟨b, 0, rest.length⟩)
        have e : capOf ⟨b, 0, rest.length⟩ (l.length / 8 + far) = l.length / 8 + rest.length := by
          have hnb : Nat.blt (l.length / 8 + far) far = false := by
            cases e : Nat.blt (l.length / 8 + far) far with
            | false => rfl
            | true => have := Nat.le_of_ble_eq_true e; omega
          unfold capOf
          rw [hnb, cond_false]
          show l.length / 8 + far - far + rest.length = _
          omega
        rw [e] at hsl
        exact hsl

end Go.X

/-
  Numbers as bytes, plain; a table of processes as bytes. Own work; no program in sight.
-/
set_option linter.unusedVariables false
set_option linter.unusedSimpArgs false
set_option maxRecDepth 100000
namespace Go.X
open Go Go.V Go.RowKit

def byt (n i : Nat) : UInt8 := UInt8.ofNat (n / 256 ^ i)
def eight8 (n : Int) : List UInt8 := [byt n.toNat 0, byt n.toNat 1, byt n.toNat 2, byt n.toNat 3, byt n.toNat 4, byt n.toNat 5, byt n.toNat 6, byt n.toNat 7]
def txt (l : List Int) : List UInt8 := l.flatMap eight8

theorem pow_256' (i : Nat) : (256 : Nat) ^ i = 2 ^ (8 * i) := by rw [Nat.pow_mul]

theorem le_one {n i : Nat} (hi : i < 8) (hn : n < 9223372036854775808) : leStep ((n % 256 ^ i : Nat) : Int) (byt n i) i = ((n % 256 ^ (i + 1) : Nat) : Int) := by
  have hb : (byt n i).toNat = n / 256 ^ i % 256 := by unfold byt; rw [u8_of]
  have hsum : n % 256 ^ (i + 1) = n % 256 ^ i + (n / 256 ^ i % 256) * 256 ^ i := by
    rw [Nat.mod_pow_succ, Nat.mul_comm]
  have hle : n % 256 ^ (i + 1) ≤ n := Nat.mod_le _ _
  have hx : n % 256 ^ i < 2 ^ (8 * i) := by rw [← pow_256']; exact Nat.mod_lt _ (Nat.pow_pos (by decide))
  have hy : (n / 256 ^ i % 256) * 2 ^ (8 * i) < 9223372036854775808 := by rw [← pow_256']; omega
  have hx2 : n % 256 ^ i < 9223372036854775808 := by omega
  unfold leStep
  rw [hb]
  have e1 : IntKind.i64.wrap (8 * (i : Int)) = 8 * (i : Int) := wrap_id (by omega) (by omega)
  have e2 : IntKind.i64.wrap ((n / 256 ^ i % 256 : Nat) : Int) = ((n / 256 ^ i % 256 : Nat) : Int) := wrap_id (by omega) (by omega)
  have e3 : min (8 * (i : Int)).toNat IntKind.i64.bits = 8 * i := by
    have : (8 * (i : Int)).toNat = 8 * i := by omega
    rw [this]
    simp [IntKind.bits]; omega
  rw [e1, e2, e3]
  have e4 : ((n / 256 ^ i % 256 : Nat) : Int) * 2 ^ (8 * i) = (((n / 256 ^ i % 256) * 2 ^ (8 * i) : Nat) : Int) := by simp
  rw [e4, wrap_id (by omega) (by omega)]
  have hlt : n % 256 ^ i + (n / 256 ^ i % 256) * 2 ^ (8 * i) < 9223372036854775808 := by
    have := hsum
    rw [pow_256' i] at this ⊢
    omega
  unfold bitsI
  generalize hX : n % 256 ^ i = X at *
  generalize hY : (n / 256 ^ i % 256) * 2 ^ (8 * i) = Y at *
  have h1 : (BitVec.ofInt IntKind.i64.bits (X : Int)) = BitVec.ofNat 64 X := by
    apply BitVec.eq_of_toNat_eq; simp [IntKind.bits, BitVec.toNat_ofInt]
  have h2 : (BitVec.ofInt IntKind.i64.bits (Y : Int)) = BitVec.ofNat 64 Y := by
    apply BitVec.eq_of_toNat_eq; simp [IntKind.bits, BitVec.toNat_ofInt]
  rw [h1, h2]
  have h3 : (BitVec.ofNat 64 X ||| BitVec.ofNat 64 Y).toNat = X ||| Y := by
    rw [BitVec.toNat_or, BitVec.toNat_ofNat, BitVec.toNat_ofNat, Nat.mod_eq_of_lt (by omega), Nat.mod_eq_of_lt (by omega)]
  show IntKind.i64.wrap ((BitVec.ofNat 64 X ||| BitVec.ofNat 64 Y).toNat : Int) = _
  have e5 : X ||| Y = X + Y := by rw [← hY]; exact or_add hx
  have e6 : n % 256 ^ (i + 1) = X + Y := by rw [hsum, ← hY, pow_256' i]
  rw [h3, e5, e6]
  exact wrap_id (by omega) (by omega)

theorem le_eight {n : Int} (h0 : 0 ≤ n) (hn : n < 9223372036854775808) : leAcc 0 0 (eight8 n) = n := by
  obtain ⟨m, rfl⟩ : ∃ m : Nat, n = m := ⟨n.toNat, by omega⟩
  have hm : m < 9223372036854775808 := by omega
  have key : ∀ i, i < 8 → leStep ((m % 256 ^ i : Nat) : Int) (byt m i) i = ((m % 256 ^ (i + 1) : Nat) : Int) := fun i hi => le_one hi hm
  unfold eight8
  simp only [Int.toNat_natCast, leAcc]
  have e0 : ((0 : Int)) = ((m % 256 ^ 0 : Nat) : Int) := by simp [Nat.mod_one]
  rw [e0, key 0 (by omega), key 1 (by omega), key 2 (by omega), key 3 (by omega), key 4 (by omega), key 5 (by omega), key 6 (by omega), key 7 (by omega)]
  rw [Nat.mod_eq_of_lt (by omega)]

theorem eight8_len (n : Int) : (eight8 n).length = 8 := rfl
theorem txt_len (l : List Int) : (txt l).length = 8 * l.length := by
  induction l with
  | nil => rfl
  | cons a r ih => show (eight8 a ++ txt r).length = _; rw [List.length_append, ih, eight8_len, List.length_cons]; omega
theorem leInts_txt : ∀ l : List Int, (∀ n ∈ l, 0 ≤ n ∧ n < 9223372036854775808) → leInts l.length (txt l) = l
  | [], _ => rfl
  | a :: r, h => by
    have ha := h a (List.mem_cons_self)
    show leAcc 0 0 ((eight8 a ++ txt r).take 8) :: leInts r.length ((eight8 a ++ txt r).drop 8) = a :: r
    have e1 : (eight8 a ++ txt r).take 8 = eight8 a := rfl
    have e2 : (eight8 a ++ txt r).drop 8 = txt r := rfl
    rw [e1, e2, le_eight ha.1 ha.2, leInts_txt r fun n hn => h n (List.mem_cons_of_mem _ hn)]

structure Rec where
  thread : Int
  parent : Int
  table : Int
  ended : Bool
  status : Int
deriving DecidableEq

def Rec.none : Rec := ⟨0, 0, 0, false, 0⟩
def Rec.nums (r : Rec) : List Int := [r.thread, r.parent, r.table, if r.ended = true then 1 else 0, r.status]
def Rec.fine (r : Rec) : Prop := (0 ≤ r.thread ∧ r.thread < 9223372036854775808) ∧ (0 ≤ r.parent ∧ r.parent < 9223372036854775808) ∧ (0 ≤ r.table ∧ r.table < 9223372036854775808) ∧ (0 ≤ r.status ∧ r.status < 9223372036854775808)
def recC (i : Nat) (r : Rec) : List Value := [it (i + 1 : Nat), it r.parent, it r.thread, it r.table, .bool r.ended, it r.status]
def numsOf (rs : List Rec) : List Int := rs.flatMap Rec.nums
def tabTxt (rs : List Rec) : List UInt8 := txt (numsOf rs)

theorem numsOf_len (rs : List Rec) : (numsOf rs).length = 5 * rs.length := by
  induction rs with
  | nil => rfl
  | cons a r ih => show (a.nums ++ numsOf r).length = _; rw [List.length_append, ih]; simp [Rec.nums]; omega
theorem tabTxt_len (rs : List Rec) : (tabTxt rs).length = 40 * rs.length := by unfold tabTxt; rw [txt_len, numsOf_len]; omega

theorem nums_fine {rs : List Rec} (h : ∀ r ∈ rs, r.fine) : ∀ n ∈ numsOf rs, 0 ≤ n ∧ n < 9223372036854775808 := by
  intro n hn
  obtain ⟨r, hr, hn⟩ := List.mem_flatMap.1 hn
  obtain ⟨h1, h2, h3, h4⟩ := h r hr
  simp only [Rec.nums, List.mem_cons, List.not_mem_nil, or_false] at hn
  rcases hn with rfl | rfl | rfl | rfl | rfl
  · exact h1
  · exact h2
  · exact h3
  · split <;> omega
  · exact h4

end Go.X
