/-
  ProcsNone: Peek at whatever number. Own work.
-/
import Derived.Test.YtdkklhnleppfcaaGreatP1
import Derived.Test.YtdkklhnleppfcaaGreatP2
import Derived.Test.YtdkklhnleppfcaaGreatPA
import Derived.Test.YtdkklhnleppfcaaGreatFs9
set_option linter.unusedVariables false
set_option linter.unusedSimpArgs false

set_option linter.unusedVariables false
set_option linter.unusedSimpArgs false
set_option maxRecDepth 100000
namespace Go.Proofs.YtdkklhnleppfcaaGreat
open Go Go.V Go.X Go.RowKit

def zProc : Array Value := #[it 0, it 0, it 0, it 0, .bool false, it 0]
theorem zc77 : zc Tryz.prog 77 = some zProc := by kernel_rfl
theorem b77e : (fun (K : Value → Prop) => vBuild Tryz.prog 77 [] K) = fun K => K (.agg zProc) := by kernel_rfl
theorem build77e {K : Value → Prop} (k : K (.agg zProc)) : vBuild Tryz.prog 77 [] K := by
  have := congrFun b77e K
  exact this ▸ k

/-- a call that was run from the empty memory -/
theorem sClosed {M : Mem} (hM : MemOK Tryz.prog 0 M) (hp : M.pre = ⟨.leaf, 0⟩) {F : Nat → Prop} {w0 w : World} {L : List As} (h : Lx F w0 w L) {as' : List Value} (ha : VRs (ren0 0 [] w) M.as as') {K : Value → World → Prop}
    (k : ∀ m' v' w', VR m' M.v v' → Lx F w0 w' L → K v' w') : CallK Tryz.prog M.g as'.toArray w K := by
  have h1 := Go.X.Lx.st h (N := 0) (ex := []) (Nat.zero_le _) (by intro a ha; cases ha)
  refine sMem hM h1 (i := 0) (m := ren0 0 [] w) (by rw [hp]; rfl) ha fun m' v' w' hm hv hL => k m' v' w' hv ?_
  exact hL.sub (List.sublist_cons_self _ _)

theorem vr_proc {m : Ren} {a b c d f : Int} {e : Bool} {v : Value} (h : VR m (lA [lI a, lI b, lI c, lI d, .bool e, lI f]) v) : v = .agg #[it a, it b, it c, it d, .bool e, it f] :=
  VR.fun h (.agg (.cons (.int _ _) (.cons (.int _ _) (.cons (.int _ _) (.cons (.int _ _) (.cons (.bool _) (.cons (.int _ _) .nil)))))))

theorem Lx.swap {F : Nat → Prop} {w0 w : World} {a b : As} {L : List As} (h : Lx F w0 w (a :: b :: L)) : Lx F w0 w (b :: a :: L) := by
  refine ⟨h.fr, fun x hx => h.ok x ?_, fun x hx => h.mine x ?_, ?_⟩
  · simp only [List.mem_cons] at hx ⊢
    rcases hx with h | h | h <;> simp [h]
  · simp only [List.mem_cons] at hx ⊢
    rcases hx with h | h | h <;> simp [h]
  · have h1 := List.pairwise_cons.1 h.dj
    have h2 := List.pairwise_cons.1 h1.2
    refine List.pairwise_cons.2 ⟨fun x hx k hk hk2 => ?_, List.pairwise_cons.2 ⟨fun x hx => h1.1 x (List.mem_cons_of_mem _ hx), h2.2⟩⟩
    rcases List.mem_cons.1 hx with rfl | hx
    · exact h1.1 b List.mem_cons_self k hk2 hk
    · exact h2.1 x hx k hk hk2

noncomputable def obl : List Value := match ob.v with
  | .tuple ⟨[.agg ⟨l⟩, _]⟩ => l
  | _ => []
theorem obv : ob.v = .tuple ⟨[.agg ⟨obl⟩, .bool true]⟩ := by kernel_rfl
theorem obl_closed : obl.all closedV = true := by kernel_rfl
theorem obl_len : obl.length = 38 := by kernel_rfl
theorem obl_one : (obl.all fun v => v.oneCell') = true := by kernel_rfl
noncomputable def tabS : Value := match ps.as with
  | [x] => x
  | _ => lNP
theorem ps_as : ps.as = [tabS] := by kernel_rfl
theorem tabS_closed : closedV tabS = true := by kernel_rfl
theorem obl_8 : obl[8]? = some tabS := by kernel_rfl

def recs (j : Nat) : List Value := if j = 0 then [it 1, it 1, it 30, it 701, .bool false, it 0] else [it (j + 1), it 0, it 0, it 0, .bool false, it 0]
theorem rec_list : (List.range 32).map (fun j => xLd psb (.agg 6) (lP 2754 (0 + j * 6))) = (List.range 32).map (fun j => some (.agg ⟨recs j⟩)) := by kernel_rfl
theorem rec_at (j : Nat) (hj : j < 32) : xLd psb (.agg 6) (lP 2754 (0 + j * 6)) = some (.agg ⟨recs j⟩) := by
  have h := congrArg (fun l => l[j]?) rec_list
  simp only [List.getElem?_map] at h
  rw [List.getElem?_range hj] at h
  exact Option.some.inj h

theorem zc68 : ∃ z, zc Tryz.prog 68 = some z ∧ z.size = 38 := by
  have h : (zc Tryz.prog 68).map (·.size) = some 38 := by kernel_rfl
  obtain ⟨z, h1, h2⟩ := Option.map_eq_some_iff.1 h
  exact ⟨z, h1, h2⟩

theorem psb_le : stLe ⟨p2b.heap, psb.next⟩ psb = true := by kernel_rfl

/-- worlds in which the same is told -/
def SS (F : Nat → Prop) (w0 : World) (m : Ren) (hp : Tr Blk) (L : List As) : World → Prop := fun W => ∃ (m' : Ren) (nx : Nat), (∀ b a, m b = some a → m' b = some a) ∧ Lx F w0 W (As.st 0 m' ⟨hp, nx⟩ :: L)

theorem sLdSX {F : Nat → Prop} {w0 w : World} {m : Ren} {hp : Tr Blk} {nx : Nat} {L : List As} (h : Lx F w0 w (As.st 0 m ⟨hp, nx⟩ :: L)) {x x' v : Value} (hx : VR m x x') (hv : xLd ⟨hp, nx⟩ .one x = some v) {K : Value → Prop}
    (k : ∀ v', VR m v v' → K v') : vLdS (SS F w0 m hp L) .one x' K := by
  have h1 : vLd .one x' w (fun v' => VR m v v') := sLdX h (i := 0) rfl hx hv fun _ e => e
  cases x' with
  | pointer oa =>
    cases oa with
    | none => exact False.elim h1
    | some a =>
      have h1 : ld1 w a (fun v' => VR m v v') := h1
      unfold ld1 at h1
      split at h1 <;> try (exact h1.elim)
      rename_i v' hc
      refine ⟨v', ?_, k v' h1⟩
      rintro W ⟨m', nx', hsub, hL⟩
      have h2 : ld1 W a (fun v'' => VR m' v v'') := sLdX hL (i := 0) rfl (hx.imp hsub) (show xLd ⟨hp, nx'⟩ .one x = some v from hv) fun _ e => e
      unfold ld1 at h2
      split at h2 <;> try (exact h2.elim)
      rename_i v'' hc2
      rw [hc2, VR.fun h2 (h1.imp hsub)]
  | _ => exact False.elim h1

theorem peek_sym {F : Nat → Prop} {w0 w : World} {m : Ren} {L : List As} (h : Lx F w0 w (As.st 0 m p2b :: L)) {pv : Value} (hp : VR m (lP 1754 0) pv) (pid : Int) {K : Value → World → Prop}
    (k : ∀ w' (m' : Ren) (nx : Nat) (a b c d f : Int) (e out : Bool), (out = true → pid = 1) → (∀ b a, m b = some a → m' b = some a) → Lx F w0 w' (As.st 0 m' ⟨p2b.heap, nx⟩ :: L) → K (.tuple #[.agg #[it a, it b, it c, it d, .bool e, it f], .bool out]) w') : CallK Tryz.prog 33 #[pv, it pid] w K := by
  obtain ⟨q, o, rfl⟩ : ∃ q o, pv = pt q o := by
    cases hp
    exact ⟨_, _, rfl⟩
  apply Ret.call
  apply F33_ok
  unfold F33
  refine sAlloc zc77 h (fun w1 b h => ?_)
  have none_ : ∀ (ρ : Env) (W : World) (L' : List As), Lx F w0 W (.blk b zProc.toList :: L') → L'.length = L'.length → (∀ W', Lx F w0 W' (.blk b zProc.toList :: L') → Lx F w0 W' (As.st 0 m ⟨p2b.heap, p2b.next⟩ :: L)) → ρ 4 = pt b 0 → ρ 18 = .bool true → F33J1 K ρ [] W := by
    intro ρ W L' hL _ hsub e4 e18
    unfold F33J1
    rw [e4, e18]
    refine rIfT ?_
    refine build77e ?_
    refine sStN hL (i := 0) rfl rfl (by decide) (by decide) (fun W' hL => ?_)
    unfold leaveV
    refine sLdN hL (i := 0) rfl (n := 6) (by simp [spl, zProc]) ?_
    exact k W' m p2b.next 0 0 0 0 0 false false (by intro e; cases e) (fun _ _ e => e) (hsub W' hL)
  have drop2 : ∀ W', Lx F w0 W' (.blk b zProc.toList :: As.st 0 m p2b :: L) → Lx F w0 W' (As.st 0 m ⟨p2b.heap, p2b.next⟩ :: L) := fun W' hL => hL.sub (List.sublist_cons_self _ _)
  refine sJoin ?_
  refine rPNil' (rIfF ?_)
  refine rLt <| sIfD (fun hlt => ?_) (fun hge => ?_)
  · intro ρ hρ
    simp only [List.map_cons, List.map_nil, List.cons.injEq, and_true] at hρ
    obtain ⟨e0, e1, e4, e18⟩ := hρ
    exact none_ ρ w1 _ h rfl drop2 e4 e18
  · refine rGt ?_
    intro ρ hρ
    simp only [List.map_cons, List.map_nil, List.cons.injEq, and_true] at hρ
    obtain ⟨e0, e1, e4, e18⟩ := hρ
    by_cases hgt : 32 < pid
    · rw [decide_eq_true hgt] at e18
      exact none_ ρ w1 _ h rfl drop2 e4 e18
    · rw [decide_eq_false hgt] at e18
      unfold F33J1
      rw [e0, e1, e4, e18]
      refine rIfF ?_
      refine sJoin ?_
      have hS : Lx F w0 w1 (As.st 0 m ⟨p2b.heap, p2b.next⟩ :: .blk b zProc.toList :: L) := Lx.swap h
      have rest : ∀ (m' : Ren) (b6 : Nat) (W : World) (ρ' : Env), (∀ b a, m b = some a → m' b = some a) → Lx F w0 W (.blk b6 obl :: As.st 0 m' obb :: .blk b zProc.toList :: L) → [1, 4, 6].map ρ' = [it pid, pt b 0, pt b6 0] → F33J2 K ρ' [] W := by
        intro m' b6 W ρ' hmm hL hρ'
        simp only [List.map_cons, List.map_nil, List.cons.injEq, and_true] at hρ'
        obtain ⟨e1', e4', e6'⟩ := hρ'
        unfold F33J2
        rw [e1', e4', e6']
        refine rFA0 (sLd hL (i := 0) rfl obl_8 ?_)
        refine sMem ps_ok hL (i := 1) (m := m') rfl (as' := [tabS]) (by rw [ps_as]; exact .cons (closedV_ok tabS_closed m') .nil) (fun m2 v34 W2 hm2 hv34 hL => ?_)
        have hv34 : VR m2 (lP 2754 0) v34 := hv34
        refine rSub (by omega) (by omega) ?_
        refine xNil_ok hv34 (v := lP 2754 0) rfl fun v37 hv37 => ?_
        obtain ⟨j, hj, hpj⟩ : ∃ j : Nat, j < 32 ∧ pid - 1 = (j : Int) := ⟨(pid - 1).toNat, by omega, by omega⟩
        rw [hpj]
        refine xIA_ok hv37 (VR.int .i64 j) (v := lP 2754 (0 + j * 6)) ?_ fun v38 hv38 => ?_
        · have hb : (0 : Int) ≤ (j : Int) := by omega
          simp [xIA, lP]
          omega
        refine sLdX hL (i := 1) rfl hv38 (rec_at j hj) fun v39 hv39 => ?_
        obtain ⟨a1, a2, a3, a4, e5, a6, hr, ha2⟩ : ∃ (a1 a2 a3 a4 : Int) (e5 : Bool) (a6 : Int), recs j = [it a1, it a2, it a3, it a4, .bool e5, it a6] ∧ (a2 ≠ 0 → j = 0) := by
          unfold recs
          split
          · exact ⟨_, _, _, _, _, _, rfl, fun _ => by assumption⟩
          · exact ⟨_, _, _, _, _, _, rfl, fun e => absurd rfl e⟩
        rw [hr] at hv39
        rw [vr_proc hv39]
        refine sAlloc zc77 hL (fun W3 b8 hL => ?_)
        have one6 : ∀ x ∈ (#[it a1, it a2, it a3, it a4, .bool e5, it a6] : Array Value).toList, x.oneCell' = true := by
          intro x hx
          simp at hx
          rcases hx with rfl | rfl | rfl | rfl | rfl | rfl <;> rfl
        refine sStN hL (i := 0) rfl rfl (by decide) one6 (fun W4 hL => ?_)
        refine rFA0 (sLd hL (i := 0) rfl (v := it a2) (by rfl) ?_)
        refine rEq <| sIfE (fun h0 => ?_) (fun h0 => ?_)
        · refine build77e ?_
          refine sStN hL (i := 3) rfl rfl (by decide) (by decide) (fun W5 hL => ?_)
          unfold leaveV
          refine sLdN hL (i := 3) rfl (n := 6) (by simp [spl, zProc]) ?_
          have hL := Go.X.Lx.less hL (i := 2) (s := ⟨p2b.heap, psb.next⟩) rfl psb_le
          exact k W5 m2 psb.next 0 0 0 0 0 false false (by intro e; cases e) (fun b a e => hm2 b a (hmm b a e)) (hL.sub (.cons _ (.cons _ (.cons_cons _ (.cons _ (List.Sublist.refl _))))))
        · refine sLdN hL (i := 0) rfl (n := 6) (by simp [spl, zProc]) ?_
          refine sStN hL (i := 3) rfl rfl (by decide) one6 (fun W5 hL => ?_)
          unfold leaveV
          refine sLdN hL (i := 3) rfl (n := 6) (by simp [spl, zProc]) ?_
          have hL := Go.X.Lx.less hL (i := 2) (s := ⟨p2b.heap, psb.next⟩) rfl psb_le
          exact k W5 m2 psb.next a1 a2 a3 a4 a6 e5 true (fun _ => by have := ha2 h0; omega) (fun b a e => hm2 b a (hmm b a e)) (hL.sub (.cons _ (.cons _ (.cons_cons _ (.cons _ (List.Sublist.refl _))))))
      refine ⟨SS F w0 m p2b.heap (.blk b zProc.toList :: L), ⟨m, p2b.next, fun _ _ e => e, hS.drew⟩, ?_⟩
      refine rNil ?_
      refine xFA_ok hp (v := lP 1754 0) rfl fun v23 hv23 => ?_
      refine sLdSX hS hv23 (v := lP 25 0) (by kernel_rfl) fun v24 hv24 => ?_
      refine rNil ?_
      refine xFA_ok hp (v := lP 1754 2) rfl fun v27 hv27 => ?_
      refine sLdSX hS hv27 (v := lI 702) (by kernel_rfl) fun v28 hv28 => ?_
      obtain ⟨z68, hz68, hz38⟩ := zc68
      have hob : ∀ (m' : Ren) (v : Value), VR m' ob.v v → v = .tuple ⟨[.agg ⟨obl⟩, .bool true]⟩ := fun m' v hv => by
        rw [obv] at hv
        exact VR.fun hv (.tup (.cons (.agg (closed_all obl_closed)) (.cons (.bool _) .nil)))
      have hone : ∀ x ∈ (⟨obl⟩ : Array Value).toList, x.oneCell' = true := fun x hx => List.all_eq_true.1 obl_one x hx
      have hspl : ∀ z : List Value, z.length = 38 → spl z 0 obl = obl := fun z hz => by
        unfold spl
        rw [List.take_zero, List.nil_append, Nat.zero_add, obl_len, List.drop_of_length_le (by omega), List.append_nil]
      refine ⟨?_, ?_, trivial⟩
      · refine sMem ob_ok hS.drew (i := 0) (m := m) rfl (as' := [v24, v28]) (.cons hv24 (.cons hv28 .nil)) (fun m' v29 w3 hm hv29 hL => ?_)
        rw [hob m' v29 hv29]
        refine ⟨⟨m', obb.next, hm, hL⟩, rExt0 (rExt1 ⟨?_, trivial⟩)⟩
        refine sAlloc hz68 hL (fun w4 b6 hL => ?_)
        refine ⟨⟨m', obb.next, hm, hL.sub (List.sublist_cons_self _ _)⟩, ?_, trivial⟩
        refine sStN hL (i := 0) rfl (show obl.length = 38 from obl_len) (by simp [hz38]) hone (fun w5 hL => ?_)
        intro ρ' hρ'
        rw [hspl _ (by simp [hz38])] at hL
        exact rest m' b6 w5 ρ' hm hL hρ'
      · refine sAlloc hz68 hS.drew (fun w4 b6 hL => ?_)
        refine ⟨⟨m, p2b.next, fun _ _ e => e, hL.sub (List.sublist_cons_self _ _)⟩, ?_, trivial⟩
        refine sMem ob_ok hL (i := 1) (m := m) rfl (as' := [v24, v28]) (.cons hv24 (.cons hv28 .nil)) (fun m' v29 w3 hm hv29 hL => ?_)
        rw [hob m' v29 hv29]
        refine ⟨⟨m', obb.next, hm, hL.sub (List.sublist_cons_self _ _)⟩, rExt0 (rExt1 ⟨?_, trivial⟩)⟩
        refine sStN hL (i := 0) rfl (show obl.length = 38 from obl_len) (by simp [hz38]) hone (fun w5 hL => ?_)
        intro ρ' hρ'
        rw [hspl _ (by simp [hz38])] at hL
        exact rest m' b6 w5 ρ' hm hL hρ'

end Go.Proofs.YtdkklhnleppfcaaGreat
