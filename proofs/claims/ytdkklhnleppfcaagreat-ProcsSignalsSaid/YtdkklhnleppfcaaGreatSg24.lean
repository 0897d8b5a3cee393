/-
  The kernel: labels of this world, and what is got. Own work.
-/
import Derived.Test.YtdkklhnleppfcaaGreatSg21
import Derived.Test.YtdkklhnleppfcaaGreatSg23
set_option linter.unusedVariables false
set_option linter.unusedSimpArgs false

set_option linter.unusedVariables false
set_option linter.unusedSimpArgs false
set_option maxRecDepth 100000
namespace Go.Proofs.YtdkklhnleppfcaaGreat
open Go Go.V Go.X Go.RowKit

theorem sClosed' {M : Mem} (hM : MemOK Tryz.prog 0 M) (hp : M.pre = ⟨.leaf, 0⟩) {F : Nat → Prop} {w0 w : World} {L : List As} (h : Lx F w0 w L) {as' : List Value} (ha : VRs (ren0 0 [] w) M.as as') {K : Value → World → Prop}
    (k : ∀ m' v' w', VR m' M.v v' → Lx F w0 w' L → K v' w') : CallK Tryz.prog M.g as'.toArray w K := by
  have h1 := Go.X.Lx.st h (N := 0) (ex := []) (Nat.zero_le _) (by intro a ha; cases ha)
  refine sMem hM h1 (i := 0) (m := ren0 0 [] w) (by rw [hp]; rfl) ha fun m' v' w' hm hv hL => k m' v' w' hv ?_
  exact hL.sub (List.sublist_cons_self _ _)

noncomputable def cm (g : Nat) (xs : List Value) (v : Value) : Mem := ⟨g, xs, ⟨.leaf, 0⟩, v, ⟨.leaf, match F0 [] ⟨.leaf, 0⟩ g xs with | some (_, st) => st.next | none => 0⟩⟩
def lab2 : Value := lA [lI 2, lNS]
noncomputable def sees11 : Mem := cm 198 [lab2, lab2] (.bool true)
theorem sees11_ok : MemOK Tryz.prog 0 sees11 := mem_ok F0_ok (by kernel_rfl)
noncomputable def alters11 : Mem := cm 200 [lab2, lab2] (.bool true)
theorem alters11_ok : MemOK Tryz.prog 0 alters11 := mem_ok F0_ok (by kernel_rfl)

section
variable {F : Nat → Prop} {w0 w : World} {L : List As} {g : KG} {κ : KP}

theorem vr_lab (m : Ren) (d : Int) : VR m (lA [lI d, lNS]) (.agg #[it d, nilS]) := .agg (.cons (.int _ _) (.cons .snil .nil))

theorem lsees_spec {K : Value → World → Prop} (h : Lx F w0 w L) (k : ∀ w', Lx F w0 w' L → K (.bool true) w') : CallK Tryz.prog 198 #[.agg #[it 2, nilS], .agg #[it 2, nilS]] w K :=
  sClosed' sees11_ok rfl h (as' := [.agg #[it 2, nilS], .agg #[it 2, nilS]]) (.cons (vr_lab _ 2) (.cons (vr_lab _ 2) .nil)) fun m v w' hv hL => by
    rw [VR.bool_eq (show VR m (.bool true) v from hv)]; exact k w' hL
theorem lalters_spec {K : Value → World → Prop} (h : Lx F w0 w L) (k : ∀ w', Lx F w0 w' L → K (.bool true) w') : CallK Tryz.prog 200 #[.agg #[it 2, nilS], .agg #[it 2, nilS]] w K :=
  sClosed' alters11_ok rfl h (as' := [.agg #[it 2, nilS], .agg #[it 2, nilS]]) (.cons (vr_lab _ 2) (.cons (vr_lab _ 2) .nil)) fun m v w' hv hL => by
    rw [VR.bool_eq (show VR m (.bool true) v from hv)]; exact k w' hL

theorem two_at {b o : Nat} {cs : List Value} {x y : Value} (h0 : cs[o]? = some x) (h1 : cs[o + 1]? = some y) : ∀ j v, ([x, y] : List Value)[j]? = some v → cs[o + j]? = some v := by
  intro j v hj
  match j with
  | 0 => simp at hj; subst hj; exact h0
  | 1 => simp at hj; subst hj; exact h1
  | j + 2 => simp at hj

theorem sees_spec {a : Nat} {x : CallP} {me draw : Int} {t : ToldP} {K : Value → World → Prop} (h : Lx F w0 w L) (ha : ∀ W, Lx F w0 W L → Cs W a (askC g x me draw t)) (k : ∀ w', Lx F w0 w' L → K (.bool true) w') : CallK Tryz.prog 123 #[pt a 0, .agg #[it 2, nilS]] w K := by
  apply Ret.call
  apply F123_ok
  unfold F123
  refine sBox h (fun w1 b h => ?_)
  refine sDraw h ?_
  refine rNil <| rFA0 <| rLdIN (cs := askC g x me draw t) (xs := [it 2, nilS]) (fun W hW => ha W (hW.sub (List.sublist_cons_self _ _))) rfl (two_at (b := 0) rfl rfl) ?_
  refine rLdIN (cs := [it 2, nilS]) (xs := [it 2, nilS]) (fun W hW => hW.get (i := 0) rfl) rfl (by intro j v hj; rw [Nat.zero_add]; exact hj) ?_
  refine ⟨?_, trivial⟩
  exact lsees_spec h.drew fun w2 h => ⟨h, k w2 (h.sub (List.sublist_cons_self _ _))⟩
theorem alters_spec {a : Nat} {x : CallP} {me draw : Int} {t : ToldP} {K : Value → World → Prop} (h : Lx F w0 w L) (ha : ∀ W, Lx F w0 W L → Cs W a (askC g x me draw t)) (k : ∀ w', Lx F w0 w' L → K (.bool true) w') : CallK Tryz.prog 127 #[pt a 0, .agg #[it 2, nilS]] w K := by
  apply Ret.call
  apply F127_ok
  unfold F127
  refine sBox h (fun w1 b h => ?_)
  refine sDraw h ?_
  refine rNil <| rFA0 <| rLdIN (cs := askC g x me draw t) (xs := [it 2, nilS]) (fun W hW => ha W (hW.sub (List.sublist_cons_self _ _))) rfl (two_at (b := 0) rfl rfl) ?_
  refine rLdIN (cs := [it 2, nilS]) (xs := [it 2, nilS]) (fun W hW => hW.get (i := 0) rfl) rfl (by intro j v hj; rw [Nat.zero_add]; exact hj) ?_
  refine ⟨?_, trivial⟩
  exact lalters_spec h.drew fun w2 h => ⟨h, k w2 (h.sub (List.sublist_cons_self _ _))⟩

theorem box_spec {a : Nat} {x : CallP} {me draw : Int} {t : ToldP} {K : Value → World → Prop} (h : Lx F w0 w L) (hi : ∀ W, Lx F w0 W L → (As.kern g κ).holds W) (ha : ∀ W, Lx F w0 W L → Cs W a (askC g x me draw t)) {c : Int} {o : ObP} (ho : κ.T c = some o) (hk : o.kind = 1)
    (k : ∀ w', Lx F w0 w' L → K (.tuple #[.agg (infoA c o), it 0]) w') : CallK Tryz.prog 125 #[pt a 0, it c] w K := by
  apply Ret.call
  apply F125_ok
  unfold F125
  have hs : ∀ {W : World} {A : List As}, Lx F w0 W (A ++ L) → Lx F w0 W L := fun h => h.sub (List.sublist_append_right _ _)
  refine sAlloc zc62 h (fun w1 b1 h => ?_)
  refine rNil <| rFA0 <| rLd (ha _ (hs (A := [_]) h)) rfl ?_
  refine rNil <| rFA0 <| rLd (kCs (hi _ (hs (A := [_]) h))) rfl ?_
  refine info_spec (i := 0) h (fun W h => kTab (hi W (hs (A := [_]) h))) (fun hn => by rw [hn] at ho; cases ho) (fun o' ho' w2 h => ?_) (fun hn => by rw [hn] at ho; cases ho)
  rw [ho] at ho'; cases ho'
  refine rExt0 (rExt1 ?_)
  refine sAlloc zc62 h (fun w3 b2 h => ?_)
  refine sStN h (i := 0) rfl rfl (by simp [infoA]) (infoA_one c o) (fun w4 h => ?_)
  have h : Lx F w0 w4 (.blk b2 (infoA c o).toList :: .blk b1 infoZ.toList :: L) := h
  refine rNot (rIfF ?_)
  refine rFA0 (sLd h (i := 0) rfl (v := it o.kind) rfl ?_)
  refine rNe (sIfNE (fun hn => absurd hk hn) (fun _ => ?_))
  refine rFA0 (sLdP h (i := 0) rfl (by simp [infoA]) ?_)
  refine sees_spec h (fun W hW => ha W (hs (A := [_, _]) hW)) (fun w5 h => ?_)
  refine rNot (rIfF ?_)
  refine sLdN h (i := 0) rfl (by simp [infoA]) ?_
  refine sStN h (i := 1) rfl (by simp [infoA]) (by simp [infoZ]) (infoA_one c o) (fun w6 h => ?_)
  refine sLdN h (i := 1) rfl (by simp [spl, infoA, infoZ]) ?_
  exact k w6 (hs (A := [_, _]) h)

def KP.boxed (κ : KP) (c : Int) : Prop := ∃ o, κ.T c = some o ∧ o.kind = 1

theorem ref_spec {a : Nat} {x : CallP} {me draw : Int} {t : ToldP} {K : Value → World → Prop} (h : Lx F w0 w L) (hi : ∀ W, Lx F w0 W L → (As.kern g κ).holds W) (ha : ∀ W, Lx F w0 W L → Cs W a (askC g x me draw t)) (wf : κ.Wf) {c n : Int} (hb : KP.boxed κ c)
    (k1 : ∀ o, κ.ref (c, n) = some o → κ.T n = some o → ∀ w', Lx F w0 w' L → K (.tuple #[.agg (infoA n o), it 0]) w') (k2 : κ.ref (c, n) = none → ∀ w', Lx F w0 w' L → K (.tuple #[.agg infoZ, it 4]) w') : CallK Tryz.prog 126 #[pt a 0, .agg #[it c, it n]] w K := by
  obtain ⟨oc, hoc, hk⟩ := hb
  apply Ret.call
  apply F126_ok
  unfold F126
  have hs : ∀ {W : World} {A : List As}, Lx F w0 W (A ++ L) → Lx F w0 W L := fun h => h.sub (List.sublist_append_right _ _)
  refine sBox h (fun w1 b3 h => ?_)
  refine sAlloc zc62 h (fun w2 b4 h => ?_)
  refine rFA0 (sLd h (i := 1) rfl (v := it c) rfl ?_)
  refine box_spec h (fun W hW => hi W (hs (A := [_, _]) hW)) (fun W hW => ha W (hs (A := [_, _]) hW)) hoc hk (fun w3 h => ?_)
  refine rExt0 (rExt1 ?_)
  refine sAlloc zc62 h (fun w4 b6 h => ?_)
  refine sStN h (i := 0) rfl rfl (by simp [infoA]) (infoA_one c oc) (fun w5 h => ?_)
  have h : Lx F w0 w5 ([.blk b6 (infoA c oc).toList, .blk b4 infoZ.toList, .blk b3 [it c, it n]] ++ L) := h
  refine sJoin ?_
  refine sDraw h ?_
  refine rNe (rBool ?_)
  rw [if_neg (by decide)]
  refine rNil <| rFA0 <| rLdI (fun W hW => ha W (hs hW)) rfl ?_
  refine rNil <| rFA0 <| rLdI (fun W hW => kCs (hi W (hs hW))) rfl ?_
  refine rFA0 (rLdI (cs := [it c, it n]) (v := it c) (fun W hW => hW.get (i := 2) rfl) rfl ?_)
  refine rFA0 (rLdI (cs := [it c, it n]) (v := it n) (fun W hW => hW.get (i := 2) rfl) rfl ?_)
  refine ⟨?_, trivial⟩
  refine thas_spec (kTab (hi _ (hs h.drew))) hoc hk (wf.len c oc hoc) ⟨h.drew, rNot ?_⟩
  intro ρ hρ
  simp only [List.map_cons, List.map_nil, List.cons.injEq, and_true] at hρ
  obtain ⟨e0, e3, e4, e33⟩ := hρ
  have h := h.drew
  unfold F126J1
  simp only [e0, e3, e4]
  rw [e33]
  by_cases hn : n ∈ oc.list
  · rw [decide_eq_true hn]
    obtain ⟨o, ho⟩ := wf.ents c oc n hoc hn
    refine rIfF ?_
    refine sDraw h ?_
    refine rNil <| rFA0 <| rLdI (fun W hW => ha W (hs hW)) rfl ?_
    refine rNil <| rFA0 <| rLdI (fun W hW => kCs (hi W (hs hW))) rfl ?_
    refine rFA0 (rLdI (cs := [it c, it n]) (v := it n) (fun W hW => hW.get (i := 2) rfl) rfl ?_)
    have href : κ.ref (c, n) = some o := by
      unfold KP.ref
      simp only [hoc]
      rw [if_pos ⟨hk, hn⟩]; exact ho
    refine ⟨?_, ?_, trivial⟩
    · refine info_spec (i := 0) h.drew (fun W h => kTab (hi W (hs h))) (fun hn => by rw [hn] at ho; cases ho) (fun o' ho' w6 h => ⟨h, ?_⟩) (fun hn => by rw [hn] at ho; cases ho)
      rw [ho] at ho'; cases ho'
      refine rExt0 (rExt1 ⟨?_, trivial⟩)
      refine sAlloc zc62 h (fun w7 b8 h => ⟨h.sub (List.sublist_cons_self _ _), ?_, trivial⟩)
      refine sStN h (i := 0) rfl rfl (by simp [infoA]) (infoA_one n o) (fun w8 h => ?_)
      refine sLdN h (i := 0) rfl (by simp [spl, infoA]) ?_
      refine sStN h (i := 2) rfl (by simp [spl, infoA]) (by simp [infoZ]) (by intro y hy; exact infoA_one n o y (by simpa [spl, infoA] using hy)) (fun w9 h => ?_)
      unfold leaveV
      refine sLdN h (i := 2) rfl (by simp [spl, infoA, infoZ]) ?_
      exact k1 o href ho w9 (hs (A := [_, _, _, _]) h)
    · refine sAlloc zc62 h.drew (fun w7 b8 h => ⟨h.sub (List.sublist_cons_self _ _), ?_, trivial⟩)
      refine info_spec (i := 0) h (fun W h => kTab (hi W (hs (A := [_, _, _, _]) h))) (fun hn => by rw [hn] at ho; cases ho) (fun o' ho' w6 h => ⟨h.sub (List.sublist_cons_self _ _), ?_⟩) (fun hn => by rw [hn] at ho; cases ho)
      rw [ho] at ho'; cases ho'
      refine rExt0 (rExt1 ⟨?_, trivial⟩)
      refine sStN h (i := 0) rfl rfl (by simp [infoA]) (infoA_one n o) (fun w8 h => ?_)
      refine sLdN h (i := 0) rfl (by simp [spl, infoA]) ?_
      refine sStN h (i := 2) rfl (by simp [spl, infoA]) (by simp [infoZ]) (by intro y hy; exact infoA_one n o y (by simpa [spl, infoA] using hy)) (fun w9 h => ?_)
      unfold leaveV
      refine sLdN h (i := 2) rfl (by simp [spl, infoA, infoZ]) ?_
      exact k1 o href ho w9 (hs (A := [_, _, _, _]) h)
  · rw [decide_eq_false hn]
    refine rIfT <| build62e ?_
    refine sStN h (i := 1) rfl rfl (by simp [infoZ]) infoZ_one (fun w6 h => ?_)
    unfold leaveV
    refine sLdN h (i := 1) rfl (by simp [spl, infoZ]) ?_
    refine k2 ?_ w6 (hs (A := [_, _, _]) h)
    unfold KP.ref
    simp only [hoc]
    rw [if_neg (fun h => hn h.2)]

end

end Go.Proofs.YtdkklhnleppfcaaGreat

/-
  The kernel: get, self, run; the rooms' alerts. Own work.
-/
set_option linter.unusedVariables false
set_option linter.unusedSimpArgs false
set_option maxRecDepth 100000
namespace Go.Proofs.YtdkklhnleppfcaaGreat
open Go Go.V Go.X Go.RowKit

section
variable {F : Nat → Prop} {w0 w : World} {L : List As} {g : KG} {κ : KP}

theorem get_spec {a f : Nat} {x : CallP} {me draw : Int} {t : ToldP} {K : Value → World → Prop} (h : Lx F w0 w L) (hi : ∀ W, Lx F w0 W L → (As.kern g κ).holds W) (ha : ∀ W, Lx F w0 W L → Cs W a (askC g x me draw t)) (wf : κ.Wf) {c n kind : Int} (hb : KP.boxed κ c) (hf : f = 123 ∨ f = 127) (hkind : kind = 2 ∨ kind = 4)
    (k1 : ∀ o y, κ.get (c, n) kind = 0 → κ.T n = some o → o.kind = kind → κ.H n = some y → ∀ w', Lx F w0 w' L → K (.tuple #[pt (g.HG n).b 0, .agg (infoA n o), it 0]) w')
    (k2 : ∀ e v, κ.get (c, n) kind = e → e ≠ 0 → v.size = 7 → (∀ y ∈ v.toList, y.oneCell' = true) → ∀ w', Lx F w0 w' L → K (.tuple #[.pointer none, .agg v, it e]) w') : CallK Tryz.prog 122 #[pt a 0, .agg #[it c, it n], it kind, .func (.func f) #[pt a 0] #[]] w K := by
  apply Ret.call
  apply F122_ok
  unfold F122
  have hs : ∀ {W : World} {A : List As}, Lx F w0 W (A ++ L) → Lx F w0 W L := fun h => h.sub (List.sublist_append_right _ _)
  refine sBox h (fun w1 b5 h => ?_)
  refine sAlloc zc62 h (fun w2 b9 h => ?_)
  refine sLdN h (i := 1) rfl rfl ?_
  refine ref_spec h (fun W hW => hi W (hs (A := [_, _]) hW)) (fun W hW => ha W (hs (A := [_, _]) hW)) wf hb (fun o href ho w3 h => ?_) (fun href w3 h => ?_)
  · refine rExt0 (rExt1 ?_)
    refine sAlloc zc62 h (fun w4 b11 h => ?_)
    refine sStN h (i := 0) rfl rfl (by simp [infoA]) (infoA_one n o) (fun w5 h => ?_)
    have h : Lx F w0 w5 ([.blk b11 (infoA n o).toList, .blk b9 infoZ.toList, .blk b5 [it c, it n]] ++ L) := h
    refine rNe (rBool ?_)
    rw [if_neg (by decide)]
    refine rFA0 (sLd h (i := 0) rfl (v := it o.kind) rfl ?_)
    refine rNe (sIfNE (fun hne => ?_) (fun heq => ?_))
    · refine sDraw h ?_
      refine rLdIN (o := 0) (cs := (infoA n o).toList) (xs := (infoA n o).toList) (fun W hW => hW.get (i := 0) rfl) rfl (by intro j v hj; rw [Nat.zero_add]; exact hj) ?_
      refine ⟨?_, trivial⟩
      refine sStN h.drew (i := 1) rfl (by simp [infoA]) (by simp [infoZ]) (by simpa using infoA_one n o) (fun w6 h => ?_)
      refine sLdN h (i := 1) rfl (by simp [spl, infoA, infoZ]) ?_
      refine k2 5 _ ?_ (by decide) ?_ ?_ w6 (hs (A := [_, _, _]) h)
      · unfold KP.get
        rw [href]
        simp [hne]
      · simp [spl, infoA, infoZ]
      · intro y hy; exact infoA_one n o y (by simpa [spl, infoA, infoZ] using hy)
    · have hy : ∃ y, κ.H n = some y := by
        rcases hkind with e | e
        · obtain ⟨y, l, h1, _⟩ := wf.seg n o ho (by rw [heq, e]); exact ⟨y, h1⟩
        · obtain ⟨y, h1, _⟩ := wf.th n o ho (by rw [heq, e]); exact ⟨y, h1⟩
      obtain ⟨y, hy⟩ := hy
      refine rFA0 (sLdP h (i := 0) rfl (by simp [infoA]) ?_)
      have key : ∀ w6, Lx F w0 w6 ([.blk b11 (infoA n o).toList, .blk b9 infoZ.toList, .blk b5 [it c, it n]] ++ L) → (vUn .not (.bool true) fun v35 => vBool v35 fun c_3 => if c_3 = true then
   (drawF w6 fun S_3 =>
   vLdS S_3 (.agg 7) (pt b11 0) fun v36 =>
   (vSt (some 7) (pt b9 0) v36 w6.drew fun w_9 =>
   (vLd (.agg 7) (pt b9 0) w_9 fun r_3 => K (.tuple #[(.pointer none), r_3, (.int .i64 3)]) w_9)) ∧
   (True))
  else
  drawF w6 fun S_4 =>
  vNilP Tryz.prog (pt a 0) fun v38 =>
  vFA (some 0) v38 fun v39 =>
  vLdS S_4 .one v39 fun v40 =>
  vNilP Tryz.prog v40 fun v41 =>
  vFA (some 2) v41 fun v42 =>
  vLdS S_4 .one v42 fun v43 =>
  vFA (some 1) (pt b5 0) fun v44 =>
  vLdS S_4 .one v44 fun v45 =>
  vLdS S_4 (.agg 7) (pt b11 0) fun v47 =>
  (vLookup Tryz.prog 158 v43 v45 false w6.drew fun v46 =>
  S_4 w6.drew ∧ ((vSt (some 7) (pt b9 0) v47 w6.drew fun w_10 =>
  (vLd (.agg 7) (pt b9 0) w_10 fun r_4 => K (.tuple #[v46, r_4, (.int .i64 0)]) w_10)) ∧
  (True))) ∧
  (True)) := by
        intro w6 h
        refine rNot (rIfF ?_)
        refine sDraw h ?_
        refine rNil <| rFA0 <| rLdI (fun W hW => ha W (hs hW)) rfl ?_
        refine rNil <| rFA0 <| rLdI (fun W hW => kCs (hi W (hs hW))) rfl ?_
        refine rFA0 (rLdI (cs := [it c, it n]) (v := it n) (fun W hW => hW.get (i := 2) rfl) rfl ?_)
        refine rLdIN (o := 0) (cs := (infoA n o).toList) (xs := (infoA n o).toList) (fun W hW => hW.get (i := 0) rfl) rfl (by intro j v hj; rw [Nat.zero_add]; exact hj) ?_
        refine ⟨things_look (hi _ (hs h.drew)) hy ⟨h.drew, ?_, trivial⟩, trivial⟩
        refine sStN h.drew (i := 1) rfl (by simp [infoA]) (by simp [infoZ]) (by simpa using infoA_one n o) (fun w7 h => ?_)
        refine sLdN h (i := 1) rfl (by simp [spl, infoA, infoZ]) ?_
        have e : (spl infoZ.toList 0 (infoA n o).toList.toArray.toList).toArray = infoA n o := by simp [spl, infoA, infoZ]
        have := k1 o y ?_ ho heq hy w7 (hs (A := [_, _, _]) h)
        · rw [← e] at this; exact this
        · unfold KP.get
          rw [href]
          simp [heq]
      rcases hf with rfl | rfl
      · show CallK Tryz.prog 123 #[pt a 0, .agg #[it 2, nilS]] w5 _
        exact sees_spec h (fun W hW => ha W (hs hW)) (fun w6 h => key w6 h)
      · show CallK Tryz.prog 127 #[pt a 0, .agg #[it 2, nilS]] w5 _
        exact alters_spec h (fun W hW => ha W (hs hW)) (fun w6 h => key w6 h)
  · refine rExt0 (rExt1 ?_)
    refine sAlloc zc62 h (fun w4 b11 h => ?_)
    refine sStN h (i := 0) rfl rfl (by simp [infoZ]) infoZ_one (fun w5 h => ?_)
    have h : Lx F w0 w5 ([.blk b11 infoZ.toList, .blk b9 infoZ.toList, .blk b5 [it c, it n]] ++ L) := h
    refine rNe (rBool ?_)
    rw [if_pos (by decide)]
    refine sDraw h ?_
    refine rLdIN (o := 0) (cs := infoZ.toList) (xs := infoZ.toList) (fun W hW => hW.get (i := 0) rfl) rfl (by intro j v hj; rw [Nat.zero_add]; exact hj) ?_
    refine ⟨?_, trivial⟩
    refine sStN h.drew (i := 1) rfl (by simp [infoZ]) (by simp [infoZ]) (by simpa using infoZ_one) (fun w6 h => ?_)
    refine sLdN h (i := 1) rfl (by simp [spl, infoZ]) ?_
    refine k2 4 _ ?_ (by decide) ?_ ?_ w6 (hs (A := [_, _, _]) h)
    · unfold KP.get
      rw [href]
    · simp [spl, infoZ]
    · intro y hy; exact infoZ_one y (by simpa [spl, infoZ] using hy)

theorem wid_spec {n : Int} {K : Value → World → Prop} (k : K (.bool (idB n)) w) : CallK Tryz.prog 215 #[it n] w K := by
  apply Ret.call
  apply F215_ok
  unfold F215
  refine rGe (sIfD (fun h1 => rLe ?_) (fun h1 => ?_))
  · unfold idB at k
    rw [decide_eq_true h1, Bool.true_and] at k
    exact k
  · unfold idB at k
    rw [decide_eq_false h1, Bool.false_and] at k
    exact k

theorem ew42 : EW Tryz.prog 42 3 1 := .of (by kernel_rfl) (by kernel_rfl) (by kernel_rfl) (by kernel_rfl)
theorem e42 : E1 Tryz.prog 42 3 (it 0) := ⟨by kernel_rfl, infoOf (by kernel_rfl), by kernel_rfl, by kernel_rfl⟩

theorem put_spec {q : Nat} {v : Value} {l : List Int} {bl : Option Nat} {n : Int} {K : Value → World → Prop} (h : Lx F w0 w (.blk q [v] :: .rw 1 v l.length (l.map it) bl :: L)) (hl : l.length < 1000)
    (k : ∀ w' v' bl', Lx F w0 w' (.blk q [v'] :: .rw 1 v' (l ++ [n]).length ((l ++ [n]).map it) bl' :: L) → K (.tuple #[]) w') : CallK Tryz.prog 224 #[pt q 0, it n] w K := by
  apply Ret.call
  apply F224_ok
  unfold F224
  refine rNil <| rFA0 <| sLd h (i := 0) rfl (v := v) rfl ?_
  refine sBuild1 e42 h rfl (fun w1 b h => ?_)
  have hr : Go.V.Row w1 (sv b 1 1) [it n] (some b) := h.row (i := 0) rfl
  refine sAppW ew42 ew42.hu h (i := 2) rfl (k := 1) (ys := [it n]) rfl (fun K k => hr.src.2 K k) rfl (by simp [Value.oneCell']) (by omega) (fun w2 v' bl' h => ?_)
  refine rNil <| rFA0 <| sSt h (i := 1) rfl (by simp) (h.rw (i := 2) rfl).one.1 (h.rw (i := 2) rfl).one.2 (fun w3 h => ?_)
  refine k w3 v' bl' ?_
  have e : (l ++ [n]).length = l.length + 1 := by simp
  have e2 : (l ++ [n]).map it = l.map it ++ [it n] := by simp
  rw [e, e2]
  exact h.sub (List.sublist_cons_self _ _)

theorem qtake_spec {q : Nat} {v : Value} {l : List Int} {bl : Option Nat} {K : Value → World → Prop} (h : Lx F w0 w (.blk q [v] :: .rw 1 v l.length (l.map it) bl :: L))
    (k1 : l = [] → K (.tuple #[it 0, .bool false]) w) (k2 : ∀ n r, l = n :: r → ∀ w' v', Lx F w0 w' (.blk q [v'] :: .rw 1 v' r.length (r.map it) bl :: L) → K (.tuple #[it n, .bool true]) w') : CallK Tryz.prog 225 #[pt q 0] w K := by
  apply Ret.call
  apply F225_ok
  unfold F225
  refine rNil <| rFA0 <| sLd h (i := 0) rfl (v := v) rfl ?_
  refine (h.rw (i := 1) rfl).lenE ?_
  refine rEq (rBool ?_)
  cases l with
  | nil => rw [if_pos (by decide)]; exact k1 rfl
  | cons n r =>
    rw [if_neg (by simp; omega)]
    refine rNil <| rFA0 <| sLd h (i := 0) rfl (v := v) rfl ?_
    refine (h.rw (i := 1) rfl).rd1 (i := 0) (x := it n) rfl ?_
    refine rNil <| rFA0 <| sLd h (i := 0) rfl (v := v) rfl ?_
    refine (h.rw (i := 1) rfl).cutlo (lo := 1) (by simp) (fun v' hr => ?_)
    have h2 : Lx F w0 w (.blk q [v] :: .rw 1 v' r.length (r.map it) bl :: L) := by
      have := h.step (i := 1) (a' := .rw 1 v' r.length (r.map it) bl) rfl (Fr.refl _ _) (show RowW 1 w v' r.length (r.map it) bl by simpa using hr) (fun k e => .inl e)
      exact this
    refine rNil <| rFA0 <| sSt h2 (i := 0) rfl (by simp) hr.one.1 hr.one.2 (fun w3 h => ?_)
    exact k2 n r rfl w3 v' h

theorem u277 : Tryz.prog.underlying 277 = some (.map 3 275) := by kernel_rfl
theorem z275 : (Tryz.prog.info? 275).bind (·.zero) = some (.agg #[nilS]) := by kernel_rfl
theorem zc275 : zc Tryz.prog 275 = some #[nilS] := by kernel_rfl
theorem u276 : Tryz.prog.underlying 276 = some (.map 3 301) := by kernel_rfl
theorem z301 : (Tryz.prog.info? 301).bind (·.zero) = some (.agg #[it 0, it 0, it 0]) := by kernel_rfl
theorem zc301 : zc Tryz.prog 301 = some #[it 0, it 0, it 0] := by kernel_rfl

theorem sUpdX {t kt et : TypeId} (hu : Tryz.prog.underlying t = some (.map kt et)) (hk : Tryz.prog.underlying kt = some (.int .i64)) {i b : Nat} {f : Int → Option Value} {key : Int} {v : Value} {K : World → Prop}
    (h : Lx F w0 w L) (hi : L[i]? = some (As.mx b f)) (k : ∀ w', Lx F w0 w' (L.set i (As.mx b (upF f key (some v)))) → K w') : vMapUpd Tryz.prog t (.map (some b)) (it key) v w K := by
  obtain ⟨n, es, c, ks, h1, h2, h3, h4⟩ : ∃ n, MapF w b n f := h.get hi
  unfold vMapUpd
  simp only [hu]
  unfold vUpdI
  refine ⟨hk, ?_⟩
  rw [h1]
  refine ⟨ks, h2, fun es' c' hc hm => k _ (h.step (a' := As.mx b _) hi ((Fr.refl _ w).put _ fun _ => rfl) ⟨_, es', c', _, World.putObj_heap_same (lt_of_blk h1), hm, rfl, fun q => ?_⟩ (fun k e => .inl e))⟩
  rw [getI_set, h4]; rfl

theorem sDelX {t kt et : TypeId} (hu : Tryz.prog.underlying t = some (.map kt et)) (hk : Tryz.prog.underlying kt = some (.int .i64)) {i b : Nat} {f : Int → Option Value} {key : Int} {K : Value → World → Prop}
    (h : Lx F w0 w L) (hi : L[i]? = some (As.mx b f)) (k : ∀ w', Lx F w0 w' (L.set i (As.mx b (upF f key none))) → K (.tuple #[]) w') : vDel Tryz.prog t (.map (some b)) (it key) w K := by
  obtain ⟨n, es, c, ks, h1, h2, h3, h4⟩ : ∃ n, MapF w b n f := h.get hi
  unfold vDel
  simp only [hu]
  refine ⟨hk, ?_⟩
  rw [h1]
  refine ⟨ks, h2, fun es' hm => k _ (h.step (a' := As.mx b _) hi ((Fr.refl _ w).put _ fun _ => rfl) ⟨_, es', c, _, World.putObj_heap_same (lt_of_blk h1), hm, rfl, fun q => ?_⟩ (fun k e => .inl e))⟩
  rw [getI_del _ _ _ h2.keys, h4]; rfl

theorem as_ext {a b : As} (h1 : a.foot = b.foot) (h2 : a.holds = b.holds) : a = b := by
  cases a; cases b; cases h1; cases h2; rfl

theorem fam_congr {α : Type} {T : Int → Option α} {A B : Int → α → As} (h : ∀ n a, T n = some a → A n a = B n a) : As.fam T A = As.fam T B := by
  apply as_ext
  · funext k
    apply propext
    constructor
    · rintro ⟨n, a, h1, h2⟩; exact ⟨n, a, h1, by rw [← h n a h1]; exact h2⟩
    · rintro ⟨n, a, h1, h2⟩; exact ⟨n, a, h1, by rw [h n a h1]; exact h2⟩
  · funext w
    apply propext
    constructor
    · rintro ⟨h1, h2⟩
      refine ⟨fun n a hn => by rw [← h n a hn]; exact h1 n a hn, fun n m a b hne hn hm k hk hk2 => ?_⟩
      rw [← h n a hn] at hk; rw [← h m b hm] at hk2
      exact h2 n m a b hne hn hm k hk hk2
    · rintro ⟨h1, h2⟩
      refine ⟨fun n a hn => by rw [h n a hn]; exact h1 n a hn, fun n m a b hne hn hm k hk hk2 => ?_⟩
      rw [h n a hn] at hk; rw [h m b hm] at hk2
      exact h2 n m a b hne hn hm k hk hk2

def quA (AG : Int → Value × Option Nat) (k : Int) (l : List Int) : As := .rw 1 (AG k).1 l.length (l.map it) (AG k).2
def alF (AG : Int → Value × Option Nat) (al : Int → Option (List Int)) (k : Int) : Option Value := (al k).map fun _ => .agg #[(AG k).1]
def tkF (tk : Int → Option (Int × Int × Int)) (k : Int) : Option Value := (tk k).map fun t => .agg #[it t.1, it t.2.1, it t.2.2]
def upG (AG : Int → Value × Option Nat) (n : Int) (x : Value × Option Nat) : Int → Value × Option Nat := fun k => if k = n then x else AG k

def roomsL (rb tkb alb : Nat) (last : Int) (tk : Int → Option (Int × Int × Int)) (AG : Int → Value × Option Nat) (al : Int → Option (List Int)) : List As :=
  [.blk rb [it last, .map (some tkb), .map (some alb)], As.mx tkb (tkF tk), As.mx alb (alF AG al), .fam al (quA AG)]
theorem alFocus {rb tkb alb : Nat} {last : Int} {AG : Int → Value × Option Nat} {al : Int → Option (List Int)} {n : Int} {m : As} {W : World} (h : Lx F w0 W (.blk rb [it last, .map (some tkb), .map (some alb)] :: m :: As.mx alb (alF AG al) :: .fam al (quA AG) :: L)) :
    ∃ v bl, (∀ K : Value → Prop, K (.agg #[v]) → ∀ w'', (∃ c, MapF w'' alb c (alF AG al)) → vLookup Tryz.prog 277 (.map (some alb)) (it n) false w'' K) ∧ Lx F w0 W (.rw 1 v ((al n).getD []).length (((al n).getD []).map it) bl :: .blk rb [it last, .map (some tkb), .map (some alb)] :: m :: As.mx alb (alF AG al) :: .fam (upF al n none) (quA AG) :: L) := by
  cases hn : al n with
  | none =>
    refine ⟨nilS, none, fun K k w'' hw => ?_, ?_⟩
    · obtain ⟨c, hm⟩ := hw
      refine MapF.look u277 u3 z275 hm (fun v hv => ?_) (fun _ => k)
      unfold alF at hv; rw [hn] at hv; cases hv
    · have e : upF al n none = al := upF_id al n hn
      rw [e]
      exact h.add (a := .rw 1 nilS 0 [] none) (Fr.refl _ _) (RowW.nil 1 W) (fun k e => by cases (show none = some k from e))
  | some l =>
    refine ⟨(AG n).1, (AG n).2, fun K k w'' hw => ?_, ?_⟩
    · obtain ⟨c, hm⟩ := hw
      refine MapF.look u277 u3 z275 hm (fun v hv => ?_) (fun hv => ?_)
      · unfold alF at hv; rw [hn] at hv; cases hv; exact k
      · unfold alF at hv; rw [hn] at hv; cases hv
    · exact h.focus (i := 3) rfl hn

theorem alPut {AG : Int → Value × Option Nat} {al : Int → Option (List Int)} {n : Int} {v : Value} {bl : Option Nat} {l : List Int} {i : Nat} {W : World} (h : Lx F w0 W (.rw 1 v l.length (l.map it) bl :: L)) (hi : L[i]? = some (.fam (upF al n none) (quA AG))) :
    Lx F w0 W (L.set i (.fam (upF al n (some l)) (quA (upG AG n (v, bl))))) := by
  have e : As.fam (upF al n none) (quA AG) = As.fam (upF al n none) (quA (upG AG n (v, bl))) := by
    refine fam_congr fun k a hk => ?_
    unfold quA upG
    by_cases hkn : k = n
    · subst hkn; rw [upF_same] at hk; cases hk
    · rw [if_neg hkn]
  rw [e] at hi
  have h2 : Lx F w0 W (quA (upG AG n (v, bl)) n l :: L) := by
    unfold quA upG
    rw [if_pos rfl]
    exact h
  have := Lx.unfocus (T := upF al n none) (n := n) (a := l) h2 hi (upF_same _ _ _)
  rw [upF_up] at this
  exact this

theorem alF_put (AG : Int → Value × Option Nat) (al : Int → Option (List Int)) (n : Int) (v : Value) (bl : Option Nat) (l : List Int) : upF (alF AG al) n (some (.agg #[v])) = alF (upG AG n (v, bl)) (upF al n (some l)) := by
  funext k
  unfold alF upG upF
  by_cases hk : k = n
  · simp [hk]
  · simp [hk]
theorem alF_del (AG : Int → Value × Option Nat) (al : Int → Option (List Int)) (n : Int) : upF (alF AG al) n none = alF AG (upF al n none) := by
  funext k
  unfold alF upF
  by_cases hk : k = n
  · simp [hk]
  · simp [hk]
theorem tkF_del (tk : Int → Option (Int × Int × Int)) (n : Int) : upF (tkF tk) n none = tkF (upF tk n none) := by
  funext k
  unfold tkF upF
  by_cases hk : k = n
  · simp [hk]
  · simp [hk]

end

end Go.Proofs.YtdkklhnleppfcaaGreat

/-
  The kernel: Post and Take of the rooms; run; the calls of threads. Own work.
-/
set_option linter.unusedVariables false
set_option linter.unusedSimpArgs false
set_option maxRecDepth 100000
namespace Go.Proofs.YtdkklhnleppfcaaGreat
open Go Go.V Go.X Go.RowKit

section
variable {F : Nat → Prop} {w0 w : World} {L : List As} {g : KG} {κ : KP}

theorem mx_fact {b : Nat} {f : Int → Option Value} {i : Nat} (h : Lx F w0 w L) (hi : L[i]? = some (As.mx b f)) : ∃ c, MapF w b c f := h.get hi

theorem rField1 {v : Value} {K : Value → Prop} (k : K v) : vField (some (.one, 0)) (.agg #[v]) K := k

theorem cells1 {v : Value} (h : v.oneCell' = true) : ∀ x ∈ (#[v] : Array Value).toList, x.oneCell' = true := by
  intro x hx; simp at hx; subst hx; exact h

theorem post_spec {thr code : Int} {K : Value → World → Prop} (h : Lx F w0 w (roomsL g.rb g.tkb g.alb κ.last κ.tk g.AG κ.al ++ L)) (hid : idB thr = true) (hc0 : 0 ≤ code) (hc1 : code ≤ 255) (hal : ((κ.al thr).getD []).length ≤ 8)
    (k1 : 8 ≤ ((κ.al thr).getD []).length → ∀ w', Lx F w0 w' (roomsL g.rb g.tkb g.alb κ.last κ.tk g.AG κ.al ++ L) → K (.tuple #[.bool false, it 7]) w')
    (k2 : ((κ.al thr).getD []).length < 8 → ∀ w' q, Lx F w0 w' (roomsL g.rb g.tkb g.alb κ.last (upF κ.tk thr none) (upG g.AG thr q) (upF κ.al thr (some ((κ.al thr).getD [] ++ [code]))) ++ L) → K (.tuple #[.bool (κ.tk thr).isSome, it 0]) w') :
    CallK Tryz.prog 141 #[pt g.rb 0, it thr, it code] w K := by
  apply Ret.call
  apply F141_ok
  unfold F141
  refine rPNil' (rIfF ?_)
  refine sJoin ?_
  refine wid_spec ?_
  rw [hid]
  refine rNot (rIfF ?_)
  refine rLt (rBool ?_)
  rw [if_neg (by simpa using hc0)]
  refine rGt ?_
  rw [decide_eq_false (by omega)]
  intro ρ hρ
  simp only [List.map_cons, List.map_nil, List.cons.injEq, and_true] at hρ
  obtain ⟨e0, e1, e2, e14⟩ := hρ
  unfold F141J1
  simp only [e0, e1, e2, e14]
  refine rIfF ?_
  obtain ⟨v, bl, hlook, h2⟩ := alFocus (n := thr) (L := L) h
  refine rNil <| rFA0 <| sLd h (i := 0) rfl (v := .map (some g.alb)) rfl ?_
  refine hlook _ ?_ _ (mx_fact h (i := 2) rfl)
  refine rField1 ?_
  refine (h2.rw (i := 0) rfl).lenE ?_
  refine rGe (sIfD (fun h8 => ?_) (fun h8 => ?_))
  · unfold leaveV
    exact k1 (by omega) w h
  · refine rNil <| rFA0 <| sLd h (i := 0) rfl (v := .map (some g.alb)) rfl ?_
    refine hlook _ ?_ _ (mx_fact h (i := 2) rfl)
    have hv := (h2.rw (i := 0) rfl).one
    refine sAlloc zc275 h2 (fun w1 q h => ?_)
    refine sStN h (i := 0) rfl rfl (by simp) (cells1 hv.1) (fun w2 h => ?_)
    have h : Lx F w0 w2 (.blk q [v] :: .rw 1 v ((κ.al thr).getD []).length (((κ.al thr).getD []).map it) bl :: (.blk g.rb [it κ.last, .map (some g.tkb), .map (some g.alb)] :: As.mx g.tkb (tkF κ.tk) :: As.mx g.alb (alF g.AG κ.al) :: .fam (upF κ.al thr none) (quA g.AG) :: L)) := h
    refine put_spec h (by omega) (fun w3 v' bl' h => ?_)
    have hv' := (h.rw (i := 1) rfl).one
    refine ⟨fun W => Cs W g.rb [it κ.last, .map (some g.tkb), .map (some g.alb)] ∧ Cs W q [v'], ⟨h.get (i := 2) rfl, h.get (i := 0) rfl⟩, ?_⟩
    refine rNil <| rFA0 <| rLdI (fun W hW => hW.1) (v := .map (some g.alb)) rfl ?_
    refine rLdIN (o := 0) (cs := [v']) (xs := [v']) (fun W hW => hW.2) rfl (by intro j x hj; rw [Nat.zero_add]; exact hj) ?_
    refine ⟨?_, trivial⟩
    refine sUpdX u277 u3 h.drew (i := 4) rfl (fun w4 h => ⟨⟨h.get (i := 2) rfl, h.get (i := 0) rfl⟩, ?_⟩)
    rw [alF_put g.AG κ.al thr v' bl' ((κ.al thr).getD [] ++ [code])] at h
    refine rNil <| rFA0 <| sLd h (i := 2) rfl (v := .map (some g.tkb)) rfl ?_
    obtain ⟨c, hm⟩ := mx_fact h (i := 3) rfl
    have go : ∀ (tv : List Value), tv.length = 3 → (∀ x ∈ tv, x.oneCell' = true) → (vExt (.tuple #[.agg tv.toArray, .bool (κ.tk thr).isSome]) 0 fun v57 =>
  vExt (.tuple #[.agg tv.toArray, .bool (κ.tk thr).isSome]) 1 fun v58 =>
  vAlloc Tryz.prog 301 w4 fun v9 w_5 =>
  vSt (some 3) v9 v57 w_5 fun w_6 =>
  vNilP Tryz.prog (pt g.rb 0) fun v60 =>
  vFA (some 1) v60 fun v61 =>
  vLd .one v61 w_6 fun v62 =>
  vDel Tryz.prog 276 v62 (it thr) w_6 fun z w_7 =>
  leaveV [] w_7 fun W => K (.tuple #[v58, (.int .i64 0)]) W) := by
      intro tv ht1 ht2
      refine rExt0 (rExt1 ?_)
      refine sAlloc zc301 h (fun w5 b9 h => ?_)
      refine sStN h (i := 0) rfl (by simpa using ht1) (by simp [ht1]) (by simpa using ht2) (fun w6 h => ?_)
      refine rNil <| rFA0 <| sLd h (i := 3) rfl (v := .map (some g.tkb)) rfl ?_
      refine sDelX u276 u3 h (i := 4) rfl (fun w7 h => ?_)
      rw [tkF_del] at h
      unfold leaveV
      refine k2 (by omega) w7 (v', bl') ?_
      have h3 := h.sub (.cons _ (.cons _ (List.Sublist.refl _)))
      have := alPut (al := κ.al) (n := thr) (v := v') (bl := bl') (l := (κ.al thr).getD [] ++ [code]) (i := 3) h3 rfl
      exact this
    refine MapF.look u276 u3 z301 hm (fun tv htv => ?_) (fun htv => ?_)
    · unfold tkF at htv
      cases ht : κ.tk thr with
      | none => rw [ht] at htv; cases htv
      | some t =>
        rw [ht] at htv; cases htv
        have := go [it t.1, it t.2.1, it t.2.2] rfl (by intro x hx; simp at hx; rcases hx with rfl | rfl | rfl <;> rfl)
        rw [ht] at this
        exact this
    · unfold tkF at htv
      cases ht : κ.tk thr with
      | none =>
        have := go [it 0, it 0, it 0] rfl (by intro x hx; simp at hx; rcases hx with rfl | rfl | rfl <;> rfl)
        rw [ht] at this
        exact this
      | some t => rw [ht] at htv; cases htv

theorem take_spec {thr : Int} {K : Value → World → Prop} (h : Lx F w0 w (roomsL g.rb g.tkb g.alb κ.last κ.tk g.AG κ.al ++ L))
    (k1 : (κ.al thr).getD [] = [] → ∀ w' AG, Lx F w0 w' (roomsL g.rb g.tkb g.alb κ.last κ.tk AG (upF κ.al thr none) ++ L) → K (.tuple #[it 0, .bool false]) w')
    (k2 : ∀ n r, (κ.al thr).getD [] = n :: r → ∀ w' AG, Lx F w0 w' (roomsL g.rb g.tkb g.alb κ.last κ.tk AG (upF κ.al thr (if r = [] then none else some r)) ++ L) → K (.tuple #[it n, .bool true]) w') :
    CallK Tryz.prog 142 #[pt g.rb 0, it thr] w K := by
  apply Ret.call
  apply F142_ok
  unfold F142
  refine rPNil' (rIfF ?_)
  obtain ⟨v, bl, hlook, h2⟩ := alFocus (n := thr) (L := L) h
  refine rNil <| rFA0 <| sLd h (i := 0) rfl (v := .map (some g.alb)) rfl ?_
  refine hlook _ ?_ _ (mx_fact h (i := 2) rfl)
  have hv := (h2.rw (i := 0) rfl).one
  refine sAlloc zc275 h2 (fun w1 q h => ?_)
  refine sStN h (i := 0) rfl rfl (by simp) (cells1 hv.1) (fun w2 h => ?_)
  have h : Lx F w0 w2 (.blk q [v] :: .rw 1 v ((κ.al thr).getD []).length (((κ.al thr).getD []).map it) bl :: (.blk g.rb [it κ.last, .map (some g.tkb), .map (some g.alb)] :: As.mx g.tkb (tkF κ.tk) :: As.mx g.alb (alF g.AG κ.al) :: .fam (upF κ.al thr none) (quA g.AG) :: L)) := h
  have rest : ∀ (n : Int) (ok : Bool) (r : List Int) (v' : Value) (W : World), Lx F w0 W (.blk q [v'] :: .rw 1 v' r.length (r.map it) bl :: (.blk g.rb [it κ.last, .map (some g.tkb), .map (some g.alb)] :: As.mx g.tkb (tkF κ.tk) :: As.mx g.alb (alF g.AG κ.al) :: .fam (upF κ.al thr none) (quA g.AG) :: L)) →
      (∀ w' AG, Lx F w0 w' (roomsL g.rb g.tkb g.alb κ.last κ.tk AG (upF κ.al thr (if r = [] then none else some r)) ++ L) → K (.tuple #[it n, .bool ok]) w') →
      (vExt (.tuple #[it n, .bool ok]) 0 fun v19 =>
  vExt (.tuple #[it n, .bool ok]) 1 fun v20 =>
  drawF W fun S =>
  vNilP Tryz.prog (pt g.rb 0) fun v22 =>
  vFA (some 2) v22 fun v23 =>
  vLdS S .one v23 fun v24 =>
  vLdS S (.agg 1) (pt q 0) fun v26 =>
  (vMapUpd Tryz.prog 277 v24 (it thr) v26 W.drew fun w_4 =>
  S w_4 ∧ (vFA (some 0) (pt q 0) fun v27 =>
  vLd .one v27 w_4 fun v28 =>
  vLen (.slice 1) v28 fun v29 =>
  vBin (.int .i64) .eql v29 (.int .i64 0) fun v30 =>
  vBool v30 fun c_2 => if c_2 = true then
   (vNilP Tryz.prog (pt g.rb 0) fun v32 =>
   vFA (some 2) v32 fun v33 =>
   vLd .one v33 w_4 fun v34 =>
   vDel Tryz.prog 277 v34 (it thr) w_4 fun z w_5 =>
   K (.tuple #[v19, v20]) w_5)
  else
  K (.tuple #[v19, v20]) w_4)) ∧
  (True)) := by
    intro n ok r v' W h kk
    refine rExt0 (rExt1 ?_)
    refine ⟨fun W => Cs W g.rb [it κ.last, .map (some g.tkb), .map (some g.alb)] ∧ Cs W q [v'], ⟨h.get (i := 2) rfl, h.get (i := 0) rfl⟩, ?_⟩
    refine rNil <| rFA0 <| rLdI (fun W hW => hW.1) (v := .map (some g.alb)) rfl ?_
    refine rLdIN (o := 0) (cs := [v']) (xs := [v']) (fun W hW => hW.2) rfl (by intro j x hj; rw [Nat.zero_add]; exact hj) ?_
    refine ⟨?_, trivial⟩
    refine sUpdX u277 u3 h.drew (i := 4) rfl (fun w4 h => ⟨⟨h.get (i := 2) rfl, h.get (i := 0) rfl⟩, ?_⟩)
    rw [alF_put g.AG κ.al thr v' bl r] at h
    refine rFA0 (sLd h (i := 0) rfl (v := v') rfl ?_)
    refine (h.rw (i := 1) rfl).lenE ?_
    refine rEq (sIfE (fun h0 => ?_) (fun h0 => ?_))
    · refine rNil <| rFA0 <| sLd h (i := 2) rfl (v := .map (some g.alb)) rfl ?_
      refine sDelX u277 u3 h (i := 4) rfl (fun w5 h => ?_)
      have hr : r = [] := List.length_eq_zero_iff.1 (by omega)
      rw [alF_del, upF_up] at h
      refine kk w5 (upG g.AG thr (v', bl)) ?_
      rw [if_pos hr]
      have h3 : Lx F w0 w5 (.blk g.rb [it κ.last, .map (some g.tkb), .map (some g.alb)] :: As.mx g.tkb (tkF κ.tk) :: As.mx g.alb (alF (upG g.AG thr (v', bl)) (upF κ.al thr none)) :: .fam (upF κ.al thr none) (quA g.AG) :: L) := h.sub (.cons _ (.cons _ (List.Sublist.refl _)))
      have e : As.fam (upF κ.al thr none) (quA g.AG) = As.fam (upF κ.al thr none) (quA (upG g.AG thr (v', bl))) := by
        refine fam_congr fun k a hk => ?_
        unfold quA upG
        by_cases hkn : k = thr
        · subst hkn; rw [upF_same] at hk; cases hk
        · rw [if_neg hkn]
      rw [e] at h3
      exact h3
    · have hr : r ≠ [] := fun e => h0 (by rw [e]; rfl)
      refine kk w4 (upG g.AG thr (v', bl)) ?_
      rw [if_neg hr]
      have h3 := h.sub (.cons _ (List.Sublist.refl _))
      have := alPut (al := κ.al) (n := thr) (v := v') (bl := bl) (l := r) (i := 3) h3 rfl
      exact this
  refine qtake_spec h (fun hnil => ?_) (fun n r hl w3 v' h => ?_)
  · refine rest 0 false ((κ.al thr).getD []) v w2 h (fun w' AG h' => ?_)
    refine k1 hnil w' AG ?_
    rw [if_pos hnil] at h'
    exact h'
  · exact rest n true r v' w3 h (k2 n r hl)

end

end Go.Proofs.YtdkklhnleppfcaaGreat

/-
  The kernel: bytes within it, the calls Read and Write of segments. Own work.
-/
set_option linter.unusedVariables false
set_option linter.unusedSimpArgs false
set_option maxRecDepth 100000
namespace Go.Proofs.YtdkklhnleppfcaaGreat
open Go Go.V Go.X Go.RowKit

theorem fitsE_B {l : List UInt8} {a k : Int} (ha : a < 9223372036854775808) : (fitsE l.length a k = 0) ↔ fitsB l a k = true := by
  unfold fitsE fitsB
  simp only [Bool.and_eq_true, decide_eq_true_eq]
  split
  · rename_i h; constructor
    · intro h; cases h
    · intro h2; omega
  · rename_i h; constructor
    · intro _; omega
    · intro _; rfl
theorem fitsE_9 {l : List UInt8} {a k : Int} (ha : a < 9223372036854775808) (h : fitsB l a k = false) : fitsE l.length a k = 9 := by
  rcases fitsE_cases' l.length a k with e | e
  · rw [(fitsE_B ha).1 e] at h; cases h
  · exact e
where fitsE_cases' (n : Nat) (a k : Int) : fitsE n a k = 0 ∨ fitsE n a k = 9 := by unfold fitsE; split <;> simp

section
variable {F : Nat → Prop} {w0 w : World} {L : List As} {g : KG} {κ : KP}

theorem byRead {h : Gh} {l : List UInt8} {a k : Int} {K : Value → World → Prop} (hB : By w h l.length (cont l) ∧ h.ps.length = (l.length + 63) / 64 ∧ l.length ≤ 4096) (ha1 : -9223372036854775808 ≤ a) (ha2 : a < 9223372036854775808)
    (k1 : fitsB l a k = true → ∀ w', Fr (fun _ => False) w w' → K (.tuple #[str (cutB l a k), it 0]) w') (k2 : fitsB l a k = false → ∀ w', Fr (fun _ => False) w w' → K (.tuple #[str [], it 9]) w') : CallK Tryz.prog 70 #[pt h.b 0, it a, it k] w K := by
  refine (read_spec hB.1 hB.2.2 (by omega) ha1 ha2 fun w' f => ?_).call
  cases hf : fitsB l a k with
  | true =>
    have e := (fitsE_B ha2).2 hf
    rw [if_pos e, e]
    have := k1 hf w' f
    unfold cutB at this
    unfold fitsB at hf
    simp only [Bool.and_eq_true, decide_eq_true_eq] at hf
    rw [seg_cont l a.toNat k.toNat (by omega)]
    exact this
  | false =>
    have e := fitsE_9 ha2 hf
    rw [if_neg (by omega), e]
    exact k2 hf w' f

theorem byWrite {h : Gh} {l s : List UInt8} {a : Int} {parts : Value} {i : Nat} {K : Value → World → Prop} (hL : Lx F w0 w L) (hi : L[i]? = some (As.by h l)) (ha1 : -9223372036854775808 ≤ a) (ha2 : a < 9223372036854775808) (hp : Parts w parts s)
    (k1 : fitsB l a s.length = true → ∀ w' h', h'.b = h.b → Lx F w0 w' (L.set i (As.by h' (putB l a s))) → K (it 0) w') (k2 : fitsB l a s.length = false → ∀ w' h', h'.b = h.b → Lx F w0 w' (L.set i (As.by h' l)) → K (it 9) w') : CallK Tryz.prog 133 #[pt h.b 0, it a, parts] w K := by
  have hB : By w h l.length (cont l) ∧ h.ps.length = (l.length + 63) / 64 ∧ l.length ≤ 4096 := hL.get hi
  refine (wr_spec hB.1 hB.2.2 (by omega) ha1 ha2 hp fun w' h' evo hl hb => ?_).call
  have st : ∀ l' : List UInt8, l'.length = l.length → By w' h' l.length (cont l') → Lx F w0 w' (L.set i (As.by h' l')) := by
    intro l' hl' hb'
    refine hL.step (a' := As.by h' l') hi (evo.fr.mono fun x _ hx => .inl hx) ⟨by rw [hl']; exact hb', by rw [hl']; exact hl.trans hB.2.1, by rw [hl']; exact hB.2.2⟩ ?_
    rintro k (hk | hk)
    · exact (evo.foot k hk).imp .inl id
    · exact evo.sees k hk
  cases hf : fitsB l a s.length with
  | true =>
    have e := (fitsE_B ha2).2 hf
    rw [if_pos e] at hb
    rw [e]
    unfold fitsB at hf
    simp only [Bool.and_eq_true, decide_eq_true_eq] at hf
    rw [cont_wrl (by omega)] at hb
    refine k1 (by unfold fitsB; simp; omega) w' h' evo.b (st (putB l a s) ?_ hb)
    unfold putB
    simp
    omega
  | false =>
    have e := fitsE_9 ha2 hf
    rw [if_neg (by omega)] at hb
    rw [e]
    exact k2 hf w' h' evo.b (st l rfl hb)

def kernBut (g : KG) (κ : KP) (n : Int) : List As := [.blk g.kb [pt g.tb 0, pt g.rb 0, .map (some g.hb), .map (some g.db), it κ.ticks], As.tab g κ, As.rooms g κ,
  As.mx g.hb (ptrF κ.H (fun k => (g.HG k).b) g.hx), .fam (upF κ.H n none) (fun k x => thAs (g.HG k) x), As.mx g.db (fun k => if κ.D k = true then some (.bool true) else none)]

theorem thing_open (h : Lx F w0 w L) {i : Nat} (hi : L[i]? = some (As.kern g κ)) {n : Int} {y : ThP} (hy : κ.H n = some y) :
    Lx F w0 w (.blk (g.HG n).b (thC (g.HG n) y) :: bytesAs (g.HG n).by' y.bytes :: (kernBut g κ n ++ L.set i .emp)) := by
  have h1 := h.opens hi
  have h2 := h1.focus (i := 4) rfl hy
  have h3 := h2.opens (i := 0) rfl
  exact h3.sub (.cons_cons _ (.cons_cons _ (.cons _ (List.Sublist.refl _))))

def upHG (HG : Int → ThG) (n : Int) (x : ThG) : Int → ThG := fun k => if k = n then x else HG k
theorem upHG_same (HG : Int → ThG) (n : Int) (x : ThG) : upHG HG n x n = x := if_pos rfl
theorem thing_close {n : Int} {y y' : ThP} {hg : ThG} (hy : κ.H n = some y) (hb : hg.b = (g.HG n).b) (h : Lx F w0 w (.blk hg.b (thC hg y') :: bytesAs hg.by' y'.bytes :: (kernBut g κ n ++ L))) (i : Nat) :
    Lx F w0 w (L.set i (As.kern { g with HG := upHG g.HG n hg } { κ with H := upF κ.H n (some y') })) := by
  have h2 : Lx F w0 w (thAs hg y' :: (kernBut g κ n ++ L)) := by
    have h0 : Lx F w0 w (.blk hg.b (thC hg y') :: bytesAs hg.by' y'.bytes :: As.emp :: (kernBut g κ n ++ L)) := by
      refine ⟨h.fr, ?_, ?_, ?_⟩
      · intro a ha
        simp only [List.mem_cons] at ha
        rcases ha with rfl | rfl | rfl | ha
        · exact h.ok _ (.head _)
        · exact h.ok _ (.tail _ (.head _))
        · trivial
        · exact h.ok _ (.tail _ (.tail _ ha))
      · intro a ha
        simp only [List.mem_cons] at ha
        rcases ha with rfl | rfl | rfl | ha
        · exact h.mine _ (.head _)
        · exact h.mine _ (.tail _ (.head _))
        · intro k hk; exact hk.elim
        · exact h.mine _ (.tail _ (.tail _ ha))
      · have d1 := List.pairwise_cons.1 h.dj
        have d2 := List.pairwise_cons.1 d1.2
        refine List.pairwise_cons.2 ⟨fun b hb k hk hk2 => ?_, List.pairwise_cons.2 ⟨fun b hb k hk hk2 => ?_, List.pairwise_cons.2 ⟨fun b hb k hk => hk.elim, d2.2⟩⟩⟩
        · simp only [List.mem_cons] at hb
          rcases hb with rfl | rfl | hb
          · exact d1.1 _ (.head _) k hk hk2
          · exact hk2
          · exact d1.1 _ (.tail _ hb) k hk hk2
        · simp only [List.mem_cons] at hb
          rcases hb with rfl | hb
          · exact hk2
          · exact d2.1 _ hb k hk hk2
    exact Lx.close (M := [.blk hg.b (thC hg y'), bytesAs hg.by' y'.bytes]) h0 0
  have e : As.fam (upF κ.H n none) (fun k x => thAs (g.HG k) x) = As.fam (upF κ.H n none) (fun k x => thAs (upHG g.HG n hg k) x) := by
    refine fam_congr fun k a hk => ?_
    by_cases hkn : k = n
    · subst hkn; rw [upF_same] at hk; cases hk
    · unfold upHG; rw [if_neg hkn]
  have e2 : ptrF κ.H (fun k => (g.HG k).b) g.hx = ptrF (upF κ.H n (some y')) (fun k => (upHG g.HG n hg k).b) g.hx := by
    funext k
    unfold ptrF upF upHG
    by_cases hkn : k = n
    · subst hkn; simp [hy, hb]
    · simp [hkn]
  unfold kernBut at h2
  rw [e, e2] at h2
  have h3 : Lx F w0 w ((fun k x => thAs (upHG g.HG n hg k) x) n y' :: ([.blk g.kb [pt g.tb 0, pt g.rb 0, .map (some g.hb), .map (some g.db), it κ.ticks], As.tab g κ, As.rooms g κ,
      As.mx g.hb (ptrF (upF κ.H n (some y')) (fun k => (upHG g.HG n hg k).b) g.hx), .fam (upF κ.H n none) (fun k x => thAs (upHG g.HG n hg k) x), As.mx g.db (fun k => if κ.D k = true then some (.bool true) else none)] ++ L)) := by
    simp only [upHG_same]
    exact h2
  have h4 := Lx.unfocus (T := upF κ.H n none) (A := fun k x => thAs (upHG g.HG n hg k) x) (n := n) (a := y') h3 (i := 4) rfl (upF_same _ _ _)
  rw [upF_up] at h4
  exact Lx.close (M := [.blk g.kb [pt g.tb 0, pt g.rb 0, .map (some g.hb), .map (some g.db), it κ.ticks], As.tab g κ, As.rooms g κ,
      As.mx g.hb (ptrF (upF κ.H n (some y')) (fun k => (upHG g.HG n hg k).b) g.hx), .fam (upF κ.H n (some y')) (fun k x => thAs (upHG g.HG n hg k) x), As.mx g.db (fun k => if κ.D k = true then some (.bool true) else none)]) h4 i

def _root_.Go.V.KP.write (κ : KP) (r : Int × Int) (a : Int) (s : List UInt8) : Int × KP :=
  if κ.get r 2 ≠ 0 then (κ.get r 2, κ) else if fitsB (κ.bytes r.2) a s.length = true then (0, κ.setBytes r.2 (putB (κ.bytes r.2) a s)) else (9, κ)
def _root_.Go.V.KP.read (κ : KP) (r : Int × Int) (a n : Int) : Int × List UInt8 :=
  if κ.get r 2 ≠ 0 then (κ.get r 2, []) else if fitsB (κ.bytes r.2) a n = true then (0, cutB (κ.bytes r.2) a n) else (9, [])

theorem e363 : E1 Tryz.prog 363 9 (str []) := ⟨by kernel_rfl, infoOf (by kernel_rfl), by kernel_rfl, by kernel_rfl⟩

theorem row_one {b : Nat} {v : Value} {W : World} (h : Go.V.Row W (sv b 1 1) [v] (some b)) : Cs W b [v] := by
  obtain ⟨r, h1, h2⟩ := h
  have hr : r = [] := by
    simp only [List.length_singleton, Value.slice.injEq] at h1
    exact List.length_eq_zero_iff.1 (by omega)
  subst hr
  simpa using h2

theorem cells_write {a : Nat} {x : CallP} {me draw : Int} {t : ToldP} {K : Value → World → Prop} (h : Lx F w0 w (.blk a (askC g x me draw t) :: L)) {i : Nat} (hi : L[i]? = some (As.kern g κ)) (hop : x.op = 15) (wf : κ.Wf) (hb : KP.boxed κ x.pi) (ha1 : -9223372036854775808 ≤ x.a) (ha2 : x.a < 9223372036854775808)
    (k : ∀ w' HG, Lx F w0 w' (.blk a (askC g x me draw t) :: L.set i (As.kern { g with HG := HG } (κ.write (x.pi, x.pj) x.a x.s).2)) → K (it (κ.write (x.pi, x.pj) x.a x.s).1) w') : CallK Tryz.prog 60 #[pt a 0] w K := by
  have hs : ∀ {W : World} {A : List As} {B : List As}, Lx F w0 W (A ++ B) → Lx F w0 W B := fun h => h.sub (List.sublist_append_right _ _)
  have hk : ∀ (A : List As) W, Lx F w0 W (A ++ L) → (As.kern g κ).holds W := fun A W h => (hs h).get hi
  apply Ret.call
  apply F60_ok
  unfold F60
  refine sJoin ?_
  refine rNil <| rFA0 <| rFA <| sLd h (i := 0) rfl (v := it x.op) rfl ?_
  rw [hop]
  refine rEq (rBool ?_)
  rw [if_pos (by decide)]
  intro ρ hρ
  simp only [List.map_cons, List.map_nil, List.cons.injEq, and_true] at hρ
  obtain ⟨e0, e3⟩ := hρ
  unfold F60J1
  simp only [e0, e3]
  refine rNil <| rFA0 <| rFA ?_
  refine sLdP h (i := 0) rfl (by simp [askC]) ?_
  refine get_spec (me := me) (x := x) (draw := draw) (t := t) (c := x.pi) (n := x.pj) h (fun W hW => hk [_] W hW) (fun W hW => hW.get (i := 0) rfl) wf hb (.inr rfl) (.inl rfl) (fun o y hget ho hkind hy w1 h => ?_) (fun e v hget hne hv1 hv2 w1 h => ?_)
  · refine sExt30 (sExt31 (sExt2 ?_))
    refine sAlloc zc62 h (fun w2 b5 h => ?_)
    refine sStN h (i := 0) rfl rfl (by simp [infoA]) (infoA_one x.pj o) (fun w3 h => ?_)
    refine rNe (rBool ?_)
    rw [if_neg (by decide)]
    refine rNil <| rFA0 <| rFA <| sLd h (i := 1) rfl (v := it x.op) rfl ?_
    rw [hop]
    refine rEq (rBool ?_)
    rw [if_neg (by decide)]
    refine rEq (rBool ?_)
    rw [if_pos (by decide)]
    obtain ⟨y2, l, hy2, hl⟩ := wf.seg _ _ ho hkind
    rw [hy] at hy2; cases hy2
    have hbytes : κ.bytes x.pj = l := by unfold KP.bytes; rw [hy]; simp [hl]
    have h := hs (A := [_]) h
    have hthing : ∀ W, Lx F w0 W (.blk a (askC g x me draw t) :: L) → Cs W (g.HG x.pj).b (thC (g.HG x.pj) y) := fun W hW => thCs (kTh (hk [_] W hW) hy)
    refine ⟨fun W => Cs W a (askC g x me draw t) ∧ Cs W (g.HG x.pj).b (thC (g.HG x.pj) y), ⟨h.drew.get (i := 0) rfl, hthing _ h.drew⟩, ?_⟩
    refine rNil <| rFA0 <| rLdI (fun W hW => hW.2) (v := pt (g.HG x.pj).by'.b 0) (by simp [thC, bytesV', hl]) ?_
    refine rNil <| rFA0 <| rFA <| rLdI (fun W hW => hW.1) (v := it x.a) rfl ?_
    refine rNil <| rFA0 <| rFA <| rLdI (fun W hW => hW.1) (v := str x.s) rfl ?_
    refine ⟨?_, trivial⟩
    refine sBuild1 e363 h.drew rfl (fun w4 b h => ⟨⟨h.get (i := 1) rfl, hthing _ (hs (A := [_]) h)⟩, ?_⟩)
    refine ⟨?_, trivial⟩
    have hp := parts_one (row_one (h.row (i := 0) rfl))
    have h := hs (A := [_]) h
    have ho' := thing_open h (i := i + 1) (by simpa using hi) hy
    rw [hl] at ho'
    have fin : ∀ (W : World) (h' : Gh) (l' : List UInt8), h'.b = (g.HG x.pj).by'.b → Lx F w0 W ((.blk (g.HG x.pj).b (thC (g.HG x.pj) y) :: bytesAs (g.HG x.pj).by' (some l) :: (kernBut g κ x.pj ++ (As.blk a (askC g x me draw t) :: L).set (i + 1) .emp)).set 1 (As.by h' l')) →
        Lx F w0 W (.blk a (askC g x me draw t) :: L.set i (As.kern { g with HG := upHG g.HG x.pj ⟨(g.HG x.pj).b, h'⟩ } { κ with H := upF κ.H x.pj (some { y with bytes := some l' }) })) := by
      intro W h' l' hb' hW
      have e : thC (g.HG x.pj) y = thC ⟨(g.HG x.pj).b, h'⟩ { y with bytes := some l' } := by
        unfold thC
        rw [hl]
        simp only [bytesV', hb']
      have h2 : Lx F w0 W (.blk (g.HG x.pj).b (thC ⟨(g.HG x.pj).b, h'⟩ { y with bytes := some l' }) :: bytesAs h' (some l') :: (kernBut g κ x.pj ++ (As.blk a (askC g x me draw t) :: L).set (i + 1) .emp)) := by
        rw [← e]
        exact hW
      have := thing_close (hg := ⟨(g.HG x.pj).b, h'⟩) (y' := { y with bytes := some l' }) hy rfl h2 (i + 1)
      simpa [List.set_set] using this
    refine byWrite ho' (i := 1) rfl ha1 ha2 hp (fun hf w5 h' hb' h => ?_) (fun hf w5 h' hb' h => ?_)
    · refine ⟨⟨?_, ?_⟩, ?_⟩
      · exact (fin _ h' _ hb' h).get (i := 0) rfl
      · have := h.get (i := 0) rfl
        exact this
      · unfold leaveV
        have e : κ.write (x.pi, x.pj) x.a x.s = (0, κ.setBytes x.pj (putB (κ.bytes x.pj) x.a x.s)) := by
          unfold KP.write
          rw [if_neg (by simp [hget]), hbytes, if_pos hf]
        have := k w5 (upHG g.HG x.pj ⟨(g.HG x.pj).b, h'⟩) ?_
        · rw [e] at this; exact this
        · rw [e]
          unfold KP.setBytes
          rw [hy, hbytes]
          exact fin _ h' _ hb' h
    · refine ⟨⟨?_, ?_⟩, ?_⟩
      · exact (fin _ h' _ hb' h).get (i := 0) rfl
      · have := h.get (i := 0) rfl
        exact this
      · unfold leaveV
        have e : κ.write (x.pi, x.pj) x.a x.s = (9, κ) := by
          unfold KP.write
          rw [if_neg (by simp [hget]), hbytes, if_neg (by simp [hf])]
        have := k w5 (upHG g.HG x.pj ⟨(g.HG x.pj).b, h'⟩) ?_
        · rw [e] at this; exact this
        · rw [e]
          have h3 := fin _ h' _ hb' h
          have e3 : ({ κ with H := upF κ.H x.pj (some { y with bytes := some l }) } : KP) = κ := by
            have : ({ y with bytes := some l } : ThP) = y := by cases y; simp only at hl; rw [hl]
            rw [this, upF_id _ _ hy]
          rw [e3] at h3
          exact h3
  · refine sExt30 (sExt31 (sExt2 ?_))
    refine sAlloc zc62 h (fun w2 b5 h => ?_)
    refine sStN h (i := 0) rfl hv1 (by simp [hv1]) hv2 (fun w3 h => ?_)
    refine rNe (sIfNE (fun _ => ?_) (fun h0 => absurd h0 hne))
    unfold leaveV
    have e1 : κ.write (x.pi, x.pj) x.a x.s = (e, κ) := by
      unfold KP.write
      rw [if_pos (by rw [hget]; exact hne), hget]
    have := k w3 g.HG ?_
    · rw [e1] at this; exact this
    · rw [e1]
      have e2 : L.set i (As.kern { g with HG := g.HG } κ) = L := by
        have hlt := (List.getElem?_eq_some_iff.1 hi).1
        apply List.ext_getElem?
        intro j
        rw [List.getElem?_set]
        split
        · rename_i e; subst e; first | exact hi.symm | (rw [if_pos hlt]; exact hi.symm)
        · rfl
      show Lx F w0 w3 (_ :: L.set i (As.kern { g with HG := g.HG } κ))
      rw [e2]
      exact hs (A := [_]) h

end

end Go.Proofs.YtdkklhnleppfcaaGreat
