/-
  The kernel: rules for reading it; the table's readers. Own work.
-/
import Derived.Test.YtdkklhnleppfcaaGreatSg19
import Derived.Test.YtdkklhnleppfcaaGreatSg20
import Derived.Test.YtdkklhnleppfcaaGreatSg14
set_option linter.unusedVariables false
set_option linter.unusedSimpArgs false

set_option linter.unusedVariables false
set_option linter.unusedSimpArgs false
set_option maxRecDepth 100000
namespace Go.Proofs.YtdkklhnleppfcaaGreat
open Go Go.V Go.RowKit

section
variable {P : Program} {F : Nat → Prop} {w0 w w' : World} {L : List As}

theorem rLdI {S : World → Prop} {b o : Nat} {cs : List Value} {v : Value} {K : Value → Prop} (h : ∀ W, S W → Cs W b cs) (hv : cs[o]? = some v) (k : K v) : vLdS S .one (pt b o) K := rLdS v (fun W hW => ⟨cs, h W hW, hv⟩) k
theorem rLdIN {S : World → Prop} {b o n : Nat} {cs xs : List Value} {K : Value → Prop} (h : ∀ W, S W → Cs W b cs) (hn : n = xs.length) (hv : ∀ j x, xs[j]? = some x → cs[o + j]? = some x) (k : K (.agg xs.toArray)) : vLdS S (.agg n) (pt b o) K := by
  refine ⟨xs, hn.symm, fun W hW j v hj => ?_, k⟩
  rw [addr_add]
  exact (h W hW).cell (hv j v hj)
theorem rLdC {b o n : Nat} {cs xs : List Value} {K : Value → Prop} (h : Cs w b cs) (hn : n = xs.length) (hv : (cs.drop o).take xs.length = xs) (hl : o + xs.length ≤ cs.length) (k : K (.agg xs.toArray)) : vLd (.agg n) (pt b o) w K := by
  subst hn
  refine rLdN h hl ?_
  rw [hv]; exact k

theorem rRowNil {v : Value} {K : Value → Prop} (h : v = .slice none 0 0) (k : K (.bool true)) : vBin (.slice 2) .eql v (.slice none 0 0) K := by
  subst h; exact k

end

theorem zc49 : zc Tryz.prog 49 = some #[it 0, nilS] := by kernel_rfl
theorem zc62 : zc Tryz.prog 62 = some #[it 0, it 0, it 0, it 0, it 0, it 0, nilS] := by kernel_rfl
theorem b49 : (fun (d : Int) (K : Value → Prop) => vBuild Tryz.prog 49 [(0, it d), (1, nilS)] K) = fun d K => ((1 : Nat) = 1 ∧ (1 : Nat) = 1 ∧ K (.agg #[it d, nilS])) := by kernel_rfl
theorem build49 {d : Int} {K : Value → Prop} (k : K (.agg #[it d, nilS])) : vBuild Tryz.prog 49 [(0, it d), (1, nilS)] K := by
  have := congrFun (congrFun b49 d) K
  exact this ▸ ⟨rfl, rfl, k⟩
def infoZ : Array Value := #[it 0, it 0, it 0, it 0, it 0, it 0, nilS]
theorem b62e : (fun (K : Value → Prop) => vBuild Tryz.prog 62 [] K) = fun K => K (.agg infoZ) := by kernel_rfl
theorem build62e {K : Value → Prop} (k : K (.agg infoZ)) : vBuild Tryz.prog 62 [] K := by
  have := congrFun b62e K
  exact this ▸ k

theorem clone_nil {w : World} {K : Value → World → Prop} (k : K nilS w) : CallK Tryz.prog 146 #[nilS] w K := by
  apply Ret.call
  apply F146_ok
  unfold F146
  exact rRowNil rfl (rIfT k)

section
variable {F : Nat → Prop} {w0 w : World} {L : List As}

theorem hown_spec {d : Int} {K : Value → World → Prop} (h : Lx F w0 w L) (k : ∀ w', Lx F w0 w' L → K (.agg #[it d, nilS]) w') : CallK Tryz.prog 145 #[.agg #[it d, nilS]] w K := by
  apply Ret.call
  apply F145_ok
  unfold F145
  refine sBox h (fun w1 b1 h => ?_)
  refine sAlloc zc49 h (fun w2 b2 h => ?_)
  refine sDraw h ?_
  refine rFA0 (sLdS (i := 1) rfl rfl ?_)
  refine rFA0 (sLdS (i := 1) rfl rfl ?_)
  refine ⟨?_, trivial⟩
  refine clone_nil ⟨h.drew, build49 ⟨?_, trivial⟩⟩
  refine sStN h.drew (i := 0) rfl rfl (by decide) (by intro x hx; simp at hx; rcases hx with rfl | rfl <;> rfl) (fun w3 h => ?_)
  refine sLdN h (i := 0) rfl rfl ?_
  exact k w3 (h.sub (.cons _ (.cons _ (List.Sublist.refl _))))

end

theorem u357 : Tryz.prog.underlying 357 = some (.map 3 266) := by kernel_rfl
theorem u3 : Tryz.prog.underlying 3 = some (.int .i64) := by kernel_rfl
theorem z266 : (Tryz.prog.info? 266).bind (·.zero) = some (.pointer none) := by kernel_rfl

section
variable {g : KG} {κ : KP} {w : World}

theorem tget_spec (h : (As.tab g κ).holds w) {n : Int} {K : Value → World → Prop} (k1 : ∀ o, κ.T n = some o → K (pt (g.TG n).b 0) w) (k2 : κ.T n = none → g.fx n = none → K (.pointer none) w) (hx : κ.T n = none → g.fx n = none) : CallK Tryz.prog 144 #[pt g.tb 0, it n] w K := by
  apply Ret.call
  apply F144_ok
  unfold F144
  refine rPNil' (rIfF <| rNil <| rFA0 <| rLd (tCs h) rfl ?_)
  refine MapF.look u357 u3 z266 (tMp h) (fun v hv => ?_) (fun hv => ?_)
  · unfold ptrF at hv
    cases hT : κ.T n with
    | none => rw [hT] at hv; simp only at hv; rw [hx hT] at hv; cases hv
    | some o => rw [hT] at hv; cases hv; exact k1 o hT
  · unfold ptrF at hv
    cases hT : κ.T n with
    | none => exact k2 hT (hx hT)
    | some o => rw [hT] at hv; cases hv

theorem tcont_spec (h : (As.tab g κ).holds w) {n : Int} {o : ObP} (ho : κ.T n = some o) {K : Value → World → Prop} (k1 : o.kind = 1 → K (.tuple #[pt (g.TG n).b 0, it 0]) w) (k2 : o.kind ≠ 1 → K (.tuple #[.pointer none, it 5]) w) : CallK Tryz.prog 148 #[pt g.tb 0, it n] w K := by
  apply Ret.call
  apply F148_ok
  unfold F148
  refine tget_spec h (fun o' ho' => ?_) (fun hn _ => by rw [hn] at ho; cases ho) (fun hn => by rw [hn] at ho; cases ho)
  rw [ho] at ho'; cases ho'
  refine rPNil' (rIfF <| rNil <| rFA0 <| rFA0 <| rLd (obCs (tOb h ho)) (v := it o.kind) rfl ?_)
  refine rNe (sIfNE (fun hk => ?_) (fun hk => ?_))
  · exact k2 hk
  · exact k1 hk

theorem index_spec {v : Value} {xs : List Int} {bl : Option Nat} (h : RowW 1 w v xs.length (xs.map it) bl) {n : Int} {K : Value → World → Prop} (hlen : xs.length < 1000000) (k1 : n ∈ xs → ∀ i : Nat, K (it i) w) (k2 : n ∉ xs → K (it (-1)) w) : CallK Tryz.prog 310 #[v, it n] w K := by
  apply Ret.call
  apply F310_ok
  unfold F310
  refine h.lenE ?_
  refine ⟨fun vs ds W => ds = [] ∧ W = w ∧ ∃ i : Nat, i ≤ xs.length ∧ vs = [v, it n, it xs.length, it i] ∧ n ∉ xs.take i, fun vs _ _ => match vs with | [_, _, _, .int _ i] => xs.length - i.toNat | _ => 0, ⟨rfl, rfl, 0, Nat.zero_le _, rfl, by simp⟩, ?_⟩
  rintro ρ ds W ⟨rfl, rfl, i, hi, hρ, hn⟩
  have hρ' := hρ
  simp only [List.map_cons, List.map_nil, List.cons.injEq, and_true] at hρ
  obtain ⟨e0, e1, e7, e8⟩ := hρ
  unfold F310L1
  simp only [e0, e1, e7, e8]
  refine rLt <| sIfD (fun hlt => ?_) (fun hge => ?_)
  · have hlt : i < xs.length := by omega
    have hx : (xs.map it)[i]? = some (it xs[i]) := by simp [hlt]
    refine h.rd1 hx ?_
    refine rEq (sIfE (fun he => ?_) (fun he => ?_))
    · exact k1 (by rw [he]; exact List.getElem_mem hlt) i
    · refine rAdd (by omega) (by omega) ?_
      have e1' : ((i : Int) + 1) = ((i + 1 : Nat) : Int) := by omega
      rw [e1']
      refine ⟨⟨by trivial, by trivial, i + 1, hlt, by trivial, ?_⟩, ?_⟩
      · rw [List.take_add_one, List.getElem?_eq_getElem hlt]
        simp only [Option.toList_some, List.mem_append, List.mem_singleton, not_or]
        exact ⟨hn, he⟩
      · simp only [List.map_cons, List.map_nil, e0, e1, e7, e8]
        show xs.length - (i + 1) < xs.length - i
        omega
  · have : i = xs.length := by omega
    subst this
    rw [List.take_length] at hn
    exact k2 hn

theorem contains_spec {v : Value} {xs : List Int} {bl : Option Nat} (h : RowW 1 w v xs.length (xs.map it) bl) {n : Int} {K : Value → World → Prop} (hlen : xs.length < 1000000) (k : K (.bool (decide (n ∈ xs))) w) : CallK Tryz.prog 272 #[v, it n] w K := by
  apply Ret.call
  apply F272_ok
  unfold F272
  refine index_spec h hlen (fun hn i => rGe ?_) (fun hn => rGe ?_)
  · rw [decide_eq_true hn] at k
    rw [decide_eq_true (by omega)]; exact k
  · rw [decide_eq_false hn] at k
    exact k

theorem thas_spec (h : (As.tab g κ).holds w) {c : Int} {o : ObP} (ho : κ.T c = some o) (hk : o.kind = 1) (hlen : o.list.length < 1000000) {n : Int} {K : Value → World → Prop} (k : K (.bool (decide (n ∈ o.list))) w) : CallK Tryz.prog 199 #[pt g.tb 0, it c, it n] w K := by
  apply Ret.call
  apply F199_ok
  unfold F199
  refine tcont_spec h ho (fun _ => ?_) (fun hn => absurd hk hn)
  refine rExt0 (rExt1 (rEq (rBool ?_)))
  rw [if_pos (by decide)]
  refine rNil (rFA0 ?_)
  apply Ret.call
  apply F201_ok
  unfold F201
  refine rNil (rFA (rLd (obCs (tOb h ho)) (v := (g.TG c).lv) rfl ?_))
  exact contains_spec (obList (tOb h ho)) hlen k
end

section
variable {F : Nat → Prop} {w0 w : World} {L : List As} {g : KG} {κ : KP}

def infoA (n : Int) (o : ObP) : Array Value := #[it n, it o.kind, it o.quota, it o.used, it o.links, it 2, nilS]
theorem infoA_one (n : Int) (o : ObP) : ∀ x ∈ (infoA n o).toList, x.oneCell' = true := by
  intro x hx
  simp [infoA] at hx
  rcases hx with rfl | rfl | rfl | rfl | rfl | rfl | rfl <;> rfl
theorem infoZ_one : ∀ x ∈ infoZ.toList, x.oneCell' = true := by
  intro x hx
  simp [infoZ] at hx
  rcases hx with rfl | rfl <;> rfl

theorem info_spec {i : Nat} (h : Lx F w0 w L) (hi : ∀ W, Lx F w0 W L → (As.tab g κ).holds W) {n : Int} {K : Value → World → Prop} (hx : κ.T n = none → g.fx n = none)
    (k1 : ∀ o, κ.T n = some o → ∀ w', Lx F w0 w' L → K (.tuple #[.agg (infoA n o), .bool true]) w') (k2 : κ.T n = none → ∀ w', Lx F w0 w' L → K (.tuple #[.agg infoZ, .bool false]) w') : CallK Tryz.prog 65 #[pt g.tb 0, it n] w K := by
  apply Ret.call
  apply F65_ok
  unfold F65
  refine sAlloc zc62 h (fun w1 b1 h => ?_)
  have hs : ∀ {W : World} {A : List As}, Lx F w0 W (A ++ L) → Lx F w0 W L := fun h => h.sub (List.sublist_append_right _ _)
  refine tget_spec (hi _ (hs (A := [_]) h)) (fun o ho => ?_) (fun ho _ => ?_) hx
  · refine rPNil' (rIfF <| rNil <| rFA0 ?_)
    refine rLdC (obCs (tOb (hi _ (hs (A := [_]) h)) ho)) (xs := (infoA n o).toList) rfl rfl (by simp [infoA, obC]) ?_
    refine sAlloc zc62 h (fun w2 b2 h => ?_)
    refine sStN h (i := 0) rfl rfl (by simp) (infoA_one n o) (fun w3 h => ?_)
    refine rFA0 ?_
    refine sLdP h (i := 0) rfl (by simp [spl, infoA]) ?_
    refine hown_spec h (fun w4 h => ?_)
    refine rFA0 ?_
    refine sStN h (i := 0) rfl rfl (by simp [spl, infoA]) (by intro x hx; simp at hx; rcases hx with rfl | rfl <;> rfl) (fun w5 h => ?_)
    refine sLdN h (i := 0) rfl (by simp [spl, infoA]) ?_
    refine sStN h (i := 1) rfl (by simp [spl, infoA]) (by simp [spl, infoA]) (by intro x hx; simp [spl, infoA] at hx; rcases hx with rfl | rfl | rfl | rfl | rfl | rfl | rfl <;> rfl) (fun w6 h => ?_)
    refine sLdN h (i := 1) rfl (by simp [spl, infoA]) ?_
    exact k1 o ho w6 (hs (A := [_, _]) h)
  · refine rPNil (rIfT <| build62e ?_)
    refine sStN h (i := 0) rfl rfl (by simp [infoZ]) infoZ_one (fun w2 h => ?_)
    refine sLdN h (i := 0) rfl (by simp [spl, infoZ]) ?_
    exact k2 ho w2 (hs (A := [_]) h)
end

end Go.Proofs.YtdkklhnleppfcaaGreat

/-
  The kernel: who asks, and what is got. Own work.
-/
set_option linter.unusedVariables false
set_option linter.unusedSimpArgs false
set_option maxRecDepth 100000
namespace Go.Proofs.YtdkklhnleppfcaaGreat
open Go Go.V Go.RowKit

structure CallP where
  op : Int
  pi : Int
  pj : Int
  qi : Int
  qj : Int
  a : Int
  b : Int
  c : Int
  ld : Int
  md : Int
  s : List UInt8
structure ToldP where
  n : Int
  s : List UInt8
  ld : Int
  md : Int
def callZ : CallP := ⟨0, 0, 0, 0, 0, 0, 0, 0, 0, 0, []⟩
def toldZ : ToldP := ⟨0, [], 0, 0⟩
def callC (x : CallP) : List Value := [it x.op, it x.pi, it x.pj, it x.qi, it x.qj, it x.a, it x.b, it x.c, it x.ld, nilS, it x.md, nilS, str x.s, it 0, it 0, it 0, it 0, it 0, .bool false, .bool false]
def toldC (t : ToldP) : List Value := [it t.n, str t.s, it t.ld, nilS, it t.md, nilS, nilS, nilS]
def askC (g : KG) (x : CallP) (me draw : Int) (t : ToldP) : List Value := [pt g.kb 0, it x.op, it x.pi, it x.pj, it x.qi, it x.qj, it x.a, it x.b, it x.c, it x.ld, nilS, it x.md, nilS, str x.s, it 0, it 0, it 0, it 0, it 0, .bool false, .bool false,
  it me, it 2, nilS, it 3, nilS, it draw, it t.n, str t.s, it t.ld, nilS, it t.md, nilS, nilS, nilS]

theorem b153 : (fun (b : Nat) (me : Int) (K : Value → Prop) => vBuild Tryz.prog 153 [(0, pt b 0), (2, it me), (3, .agg #[it 2, nilS]), (4, .agg #[it 3, nilS])] K) = fun b me K => ((1 : Nat) = 1 ∧ (1 : Nat) = 1 ∧ (2 : Nat) = 2 ∧ (2 : Nat) = 2 ∧ K (.agg #[pt b 0, it 0, it 0, it 0, it 0, it 0, it 0, it 0, it 0, it 0, nilS, it 0, nilS, str [], it 0, it 0, it 0, it 0, it 0, .bool false, .bool false, it me, it 2, nilS, it 3, nilS, it 0, it 0, str [], it 0, nilS, it 0, nilS, nilS, nilS])) := by kernel_rfl
theorem build153 {g : KG} {me : Int} {K : Value → Prop} (k : K (.agg (askC g callZ me 0 toldZ).toArray)) : vBuild Tryz.prog 153 [(0, pt g.kb 0), (2, it me), (3, .agg #[it 2, nilS]), (4, .agg #[it 3, nilS])] K := by
  have := congrFun (congrFun (congrFun b153 g.kb) me) K
  exact this ▸ ⟨rfl, rfl, rfl, rfl, k⟩
theorem u158 : Tryz.prog.underlying 158 = some (.map 3 163) := by kernel_rfl
theorem z163 : (Tryz.prog.info? 163).bind (·.zero) = some (.pointer none) := by kernel_rfl

def KG.mine (g : KG) (κ : KP) (n : Int) : Prop := (κ.T n = none → g.fx n = none)

section
variable {F : Nat → Prop} {w0 w : World} {L : List As} {g : KG} {κ : KP}

theorem things_look {W : World} (hk : (As.kern g κ).holds W) {n : Int} {x : ThP} (hx : κ.H n = some x) {K : Value → Prop} (k : K (pt (g.HG n).b 0)) : vLookup Tryz.prog 158 (.map (some g.hb)) (it n) false W K := by
  obtain ⟨m, hm⟩ := kHm hk
  refine MapF.look u158 u3 z163 hm (fun v hv => ?_) (fun hv => ?_)
  · unfold ptrF at hv; rw [hx] at hv; cases hv; exact k
  · unfold ptrF at hv; rw [hx] at hv; cases hv

theorem begin_spec (h : Lx F w0 w L) (hi : ∀ W, Lx F w0 W L → (As.kern g κ).holds W) (wf : κ.Wf) {me : Int} (hm : g.mine κ me) {K : Value → World → Prop}
    (k1 : κ.runs me = true → ∀ w' a, Lx F w0 w' (.blk a (askC g callZ me 0 toldZ) :: L) → K (.tuple #[pt a 0, it 0]) w') (k2 : κ.runs me = false → ∀ w', Lx F w0 w' L → K (.tuple #[.pointer none, it 11]) w') : CallK Tryz.prog 56 #[pt g.kb 0, it me] w K := by
  apply Ret.call
  apply F56_ok
  unfold F56
  refine rPNil' (rIfF <| rNil <| rFA0 <| rLd (kCs (hi _ h)) rfl ?_)
  have hs : ∀ {W : World} {A : List As}, Lx F w0 W (A ++ L) → Lx F w0 W L := fun h => h.sub (List.sublist_append_right _ _)
  refine info_spec (i := 0) h (fun W h => kTab (hi W h)) hm (fun o ho w1 h => ?_) (fun ho w1 h => ?_)
  · refine rExt0 (rExt1 ?_)
    refine sAlloc zc62 h (fun w2 b6 h => ?_)
    refine sStN h (i := 0) rfl rfl (by simp [infoA]) (infoA_one me o) (fun w3 h => ?_)
    have h : Lx F w0 w3 (.blk b6 (infoA me o).toList :: L) := h
    refine sJoin ?_
    refine rNot (rIfF ?_)
    refine rFA0 (sLd h (i := 0) rfl (v := it o.kind) rfl ?_)
    have dead : κ.runs me = false → ∀ ρ : Env, [0, 1, 6, 37].map ρ = [pt g.kb 0, it me, pt b6 0, .bool true] → F56J1 K ρ [] w3 := by
      intro hr ρ hρ
      simp only [List.map_cons, List.map_nil, List.cons.injEq, and_true] at hρ
      obtain ⟨e0, e1, e6, e37⟩ := hρ
      unfold F56J1
      rw [e37]
      exact rIfT (k2 hr w3 (hs (A := [_]) h))
    refine rNe (sIfNE (fun hk => ?_) (fun hk => ?_))
    · refine dead ?_
      unfold KP.runs
      rw [ho]
      cases κ.H me <;> simp [hk]
    · obtain ⟨x, hx, hc⟩ := wf.th me o ho hk
      refine rNil <| rFA0 <| rLd (kCs (hi _ (hs (A := [_]) h))) rfl ?_
      refine things_look (hi _ (hs (A := [_]) h)) hx ?_
      refine rNil <| rFA0 <| rLd (thCs (kTh (hi _ (hs (A := [_]) h)) hx)) (v := it x.does) rfl ?_
      refine rNe ?_
      by_cases hd : x.does = 0
      · have e : (x.does != 0) = false := by rw [hd]; rfl
        rw [e]
        intro ρ hρ
        simp only [List.map_cons, List.map_nil, List.cons.injEq, and_true] at hρ
        obtain ⟨e0, e1, e6, e37⟩ := hρ
        unfold F56J1
        simp only [e0, e1, e6, e37]
        refine rIfF ?_
        refine sDraw h ?_
        refine rFA0 (rLdIN (cs := (infoA me o).toList) (xs := [it 2, nilS]) (fun W hW => hW.get (i := 0) rfl) rfl (by intro j x hj; match j with | 0 => simpa [infoA] using hj | 1 => simpa [infoA] using hj | j + 2 => simp at hj) ?_)
        refine rNil <| rFA0 <| rLdI (fun W hW => kCs (hi W (hs (A := [_]) hW))) rfl ?_
        refine ⟨things_look (hi _ (hs (A := [_]) h.drew)) hx ⟨h.drew, ?_⟩, trivial⟩
        refine rNil <| rFA0 ?_
        refine rLdIN (cs := thC (g.HG me) x) (xs := [it 3, nilS]) (fun W hW => thCs (kTh (hi W (hs (A := [_]) hW)) hx)) rfl (by intro j y hj; match j with | 0 => simpa [thC, hc] using hj | 1 => simpa [thC] using hj | j + 2 => simp at hj) ?_
        refine build153 ⟨?_, trivial⟩
        refine sBox h.drew (fun w4 a h4 => ⟨h4.sub (List.sublist_cons_self _ _), ?_⟩)
        refine k1 ?_ w4 a (h4.sub (.cons_cons _ (List.sublist_cons_self _ _)))
        unfold KP.runs
        rw [ho, hx]
        simp [hk, hd]
      · have e : (x.does != 0) = true := by simpa using hd
        rw [e]
        refine dead ?_
        unfold KP.runs
        rw [ho, hx]
        simp [hd]
  · refine rExt0 (rExt1 ?_)
    refine sAlloc zc62 h (fun w2 b6 h => ?_)
    refine sStN h (i := 0) rfl rfl (by simp [infoZ]) infoZ_one (fun w3 h => ?_)
    refine sJoin ?_
    refine rNot (rIfT ?_)
    intro ρ hρ
    simp only [List.map_cons, List.map_nil, List.cons.injEq, and_true] at hρ
    obtain ⟨e0, e1, e6, e37⟩ := hρ
    unfold F56J1
    rw [e37]
    refine rIfT (k2 ?_ w3 (hs (A := [_]) h))
    unfold KP.runs
    rw [ho]

end

end Go.Proofs.YtdkklhnleppfcaaGreat
