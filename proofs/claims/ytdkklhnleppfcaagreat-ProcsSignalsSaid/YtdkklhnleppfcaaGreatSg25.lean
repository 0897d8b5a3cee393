/-
  The kernel: Read of segments; the calls about threads and their alerts. Own work.
-/
import Derived.Test.YtdkklhnleppfcaaGreatSg24
set_option linter.unusedVariables false
set_option linter.unusedSimpArgs false

set_option linter.unusedVariables false
set_option linter.unusedSimpArgs false
set_option maxRecDepth 100000
namespace Go.Proofs.YtdkklhnleppfcaaGreat
open Go Go.V Go.X Go.RowKit

section
variable {F : Nat → Prop} {w0 w : World} {L : List As} {g : KG} {κ : KP}

theorem set_self {i : Nat} {A : As} (hi : L[i]? = some A) : L.set i A = L := by
  have hlt := (List.getElem?_eq_some_iff.1 hi).1
  apply List.ext_getElem?
  intro j
  rw [List.getElem?_set]
  split
  · rename_i e; subst e; first | exact hi.symm | (rw [if_pos hlt]; exact hi.symm)
  · rfl

theorem dropHead {A B : List As} {W : World} (h : Lx F w0 W (A ++ B)) : Lx F w0 W B := h.sub (List.sublist_append_right _ _)

theorem cells_read {a : Nat} {x : CallP} {me draw : Int} {t : ToldP} {K : Value → World → Prop} (h : Lx F w0 w (.blk a (askC g x me draw t) :: L)) {i : Nat} (hi : L[i]? = some (As.kern g κ)) (hop : x.op = 14) (wf : κ.Wf) (hb : KP.boxed κ x.pi) (ha1 : -9223372036854775808 ≤ x.a) (ha2 : x.a < 9223372036854775808)
    (k : ∀ w' t', ((κ.read (x.pi, x.pj) x.a x.b).1 = 0 → t' = { t with s := (κ.read (x.pi, x.pj) x.a x.b).2 }) → Lx F w0 w' (.blk a (askC g x me draw t') :: L) → K (it (κ.read (x.pi, x.pj) x.a x.b).1) w') : CallK Tryz.prog 60 #[pt a 0] w K := by
  have hs : ∀ {W : World} {A : List As} {B : List As}, Lx F w0 W (A ++ B) → Lx F w0 W B := fun h => h.sub (List.sublist_append_right _ _)
  have hk : ∀ (A : List As) W, Lx F w0 W (A ++ L) → (As.kern g κ).holds W := fun A W h => (hs h).get hi
  apply Ret.call
  apply F60_ok
  unfold F60
  refine sJoin ?_
  refine rNil <| rFA0 <| rFA <| sLd h (i := 0) rfl (v := it x.op) rfl ?_
  rw [hop]
  refine rEq (rBool ?_)
  rw [if_neg (by decide)]
  refine rNil <| rFA0 <| rFA <| sLd h (i := 0) rfl (v := it x.op) rfl ?_
  rw [hop]
  refine rEq (rBool ?_)
  rw [if_neg (by decide)]
  refine rNil <| rFA0 <| rFA <| sLd h (i := 0) rfl (v := it x.op) rfl ?_
  rw [hop]
  refine rEq (rBool ?_)
  rw [if_neg (by decide)]
  intro ρ hρ
  simp only [List.map_cons, List.map_nil, List.cons.injEq, and_true] at hρ
  obtain ⟨e0, e3⟩ := hρ
  unfold F60J1
  simp only [e0, e3]
  refine rNil <| rFA0 <| rFA ?_
  refine sLdP h (i := 0) rfl (by simp [askC]) ?_
  refine get_spec (me := me) (x := x) (draw := draw) (t := t) (c := x.pi) (n := x.pj) h (fun W hW => hk [_] W hW) (fun W hW => hW.get (i := 0) rfl) wf hb (.inl rfl) (.inl rfl) (fun o y hget ho hkind hy w1 h => ?_) (fun e v hget hne hv1 hv2 w1 h => ?_)
  · refine sExt30 (sExt31 (sExt2 ?_))
    refine sAlloc zc62 h (fun w2 b5 h => ?_)
    refine sStN h (i := 0) rfl rfl (by simp [infoA]) (infoA_one x.pj o) (fun w3 h => ?_)
    refine rNe (rBool ?_)
    rw [if_neg (by decide)]
    refine rNil <| rFA0 <| rFA <| sLd h (i := 1) rfl (v := it x.op) rfl ?_
    rw [hop]
    refine rEq (rBool ?_)
    rw [if_pos (by decide)]
    obtain ⟨y2, l, hy2, hl⟩ := wf.seg _ _ ho hkind
    rw [hy] at hy2; cases hy2
    have hbytes : κ.bytes x.pj = l := by unfold KP.bytes; rw [hy]; simp [hl]
    have h := hs (A := [_]) h
    have hthing : ∀ W, Lx F w0 W (.blk a (askC g x me draw t) :: L) → Cs W (g.HG x.pj).b (thC (g.HG x.pj) y) := fun W hW => thCs (kTh (hk [_] W hW) hy)
    refine sDraw h ?_
    refine rNil <| rFA0 <| rLdI hthing (v := pt (g.HG x.pj).by'.b 0) (by simp [thC, bytesV', hl]) ?_
    refine rNil <| rFA0 <| rFA <| rLdI (fun W hW => hW.get (i := 0) rfl) (v := it x.a) rfl ?_
    refine rNil <| rFA0 <| rFA <| rLdI (fun W hW => hW.get (i := 0) rfl) (v := it x.b) rfl ?_
    refine ⟨?_, trivial⟩
    have hget' : ¬ (κ.get (x.pi, x.pj) 2 ≠ 0) := by simp [hget]
    refine byRead (thBy (kTh (hk [_] _ h.drew) hy) hl) ha1 ha2 (fun hf w4 f => ?_) (fun hf w4 f => ?_)
    · have h := h.drew.more f
      refine ⟨h, rExt0 (rExt1 ?_)⟩
      refine rNil <| rFA0 <| rFA ?_
      refine ⟨?_, trivial⟩
      refine sSt h (i := 0) rfl (by simp [askC]) rfl (by simp) (fun w5 h => ?_)
      unfold leaveV
      have e : κ.read (x.pi, x.pj) x.a x.b = (0, cutB l x.a x.b) := by
        unfold KP.read
        rw [if_neg hget', hbytes, if_pos hf]
      have := k w5 { t with s := (κ.read (x.pi, x.pj) x.a x.b).2 } (fun _ => rfl) ?_
      · rw [e] at this; exact this
      · rw [e]; exact h
    · have h := h.drew.more f
      refine ⟨h, rExt0 (rExt1 ?_)⟩
      refine rNil <| rFA0 <| rFA ?_
      refine ⟨?_, trivial⟩
      refine sSt h (i := 0) rfl (by simp [askC]) rfl (by simp) (fun w5 h => ?_)
      unfold leaveV
      have e : κ.read (x.pi, x.pj) x.a x.b = (9, []) := by
        unfold KP.read
        rw [if_neg hget', hbytes, if_neg (by simp [hf])]
      have := k w5 { t with s := [] } (fun h0 => by rw [e] at h0; simp at h0) h
      rw [e] at this; exact this
  · refine sExt30 (sExt31 (sExt2 ?_))
    refine sAlloc zc62 h (fun w2 b5 h => ?_)
    refine sStN h (i := 0) rfl hv1 (by simp [hv1]) hv2 (fun w3 h => ?_)
    refine rNe (sIfNE (fun _ => ?_) (fun h0 => absurd h0 hne))
    unfold leaveV
    have e1 : κ.read (x.pi, x.pj) x.a x.b = (e, []) := by
      unfold KP.read
      rw [if_pos (by rw [hget]; exact hne), hget]
    have := k w3 t (fun h0 => absurd (by rw [e1] at h0; exact h0) hne) (hs (A := [_]) h)
    rw [e1] at this; exact this

def kernNoR (g : KG) (κ : KP) : List As := [.blk g.kb [pt g.tb 0, pt g.rb 0, .map (some g.hb), .map (some g.db), it κ.ticks], As.tab g κ, .emp,
  As.mx g.hb (ptrF κ.H (fun k => (g.HG k).b) g.hx), .fam κ.H (fun k x => thAs (g.HG k) x), As.mx g.db (fun k => if κ.D k = true then some (.bool true) else none)]

theorem rooms_open (h : Lx F w0 w L) {i : Nat} (hi : L[i]? = some (As.kern g κ)) : Lx F w0 w (roomsL g.rb g.tkb g.alb κ.last κ.tk g.AG κ.al ++ (kernNoR g κ ++ L.set i .emp)) :=
  (h.opens hi).opens (i := 2) rfl

theorem rooms_close {last : Int} {tk : Int → Option (Int × Int × Int)} {AG : Int → Value × Option Nat} {al : Int → Option (List Int)} (h : Lx F w0 w (roomsL g.rb g.tkb g.alb last tk AG al ++ (kernNoR g κ ++ L))) (i : Nat) :
    Lx F w0 w (L.set i (As.kern { g with AG := AG } { κ with last := last, tk := tk, al := al })) := by
  have h1 := Lx.close h 2
  exact Lx.close (M := [.blk g.kb [pt g.tb 0, pt g.rb 0, .map (some g.hb), .map (some g.db), it κ.ticks], As.tab g κ, .all (roomsL g.rb g.tkb g.alb last tk AG al),
    As.mx g.hb (ptrF κ.H (fun k => (g.HG k).b) g.hx), .fam κ.H (fun k x => thAs (g.HG k) x), As.mx g.db (fun k => if κ.D k = true then some (.bool true) else none)]) h1 i

def _root_.Go.V.KP.post (κ : KP) (r : Int × Int) (code : Int) : Int × KP :=
  if κ.get r 4 ≠ 0 then (κ.get r 4, κ) else if 8 ≤ ((κ.al r.2).getD []).length then (7, κ) else (0, { κ with al := upF κ.al r.2 (some ((κ.al r.2).getD [] ++ [code])), tk := upF κ.tk r.2 none })
def _root_.Go.V.KP.take (κ : KP) (me : Int) : Int × Int × KP :=
  match (κ.al me).getD [] with
  | [] => (10, 0, { κ with al := upF κ.al me none })
  | c :: r => (0, c, { κ with al := upF κ.al me (if r = [] then none else some r) })

theorem threads_post {a : Nat} {x : CallP} {me draw : Int} {t : ToldP} {K : Value → World → Prop} (h : Lx F w0 w (.blk a (askC g x me draw t) :: L)) {i : Nat} (hi : L[i]? = some (As.kern g κ)) (hop : x.op = 24) (wf : κ.Wf) (hb : KP.boxed κ x.pi) (hid : idB x.pj = true) (ha1 : 0 ≤ x.a) (ha2 : x.a ≤ 255) (htk : κ.tk x.pj = none)
    (k : ∀ w' AG, Lx F w0 w' (.blk a (askC g x me draw t) :: L.set i (As.kern { g with AG := AG } (κ.post (x.pi, x.pj) x.a).2)) → K (it (κ.post (x.pi, x.pj) x.a).1) w') : CallK Tryz.prog 62 #[pt a 0] w K := by
  have hk : ∀ (A : List As) W, Lx F w0 W (A ++ L) → (As.kern g κ).holds W := fun A W h => (dropHead h).get hi
  have hself : ∀ W, Lx F w0 W (.blk a (askC g x me draw t) :: L) → Lx F w0 W (.blk a (askC g x me draw t) :: L.set i (As.kern { g with AG := g.AG } κ)) := fun W hW => by
    show Lx F w0 W (_ :: L.set i (As.kern g κ))
    rw [set_self hi]; exact hW
  apply Ret.call
  apply F62_ok
  unfold F62
  refine rNil <| rFA0 <| rFA <| sLd h (i := 0) rfl (v := it x.op) rfl ?_
  rw [hop]
  refine rEq (rBool ?_)
  rw [if_pos (by decide)]
  refine rNil <| rFA0 <| rFA ?_
  refine sLdP h (i := 0) rfl (by simp [askC]) ?_
  refine get_spec (me := me) (x := x) (draw := draw) (t := t) (c := x.pi) (n := x.pj) h (fun W hW => hk [_] W hW) (fun W hW => hW.get (i := 0) rfl) wf hb (.inr rfl) (.inr rfl) (fun o y hget ho hkind hy w1 h => ?_) (fun e v hget hne hv1 hv2 w1 h => ?_)
  · refine sExt30 (sExt31 (sExt2 ?_))
    refine sAlloc zc62 h (fun w2 b5 h => ?_)
    refine sStN h (i := 0) rfl rfl (by simp [infoA]) (infoA_one x.pj o) (fun w3 h => ?_)
    refine rNe (rBool ?_)
    rw [if_neg (by decide)]
    have h := dropHead (A := [_]) h
    refine ⟨fun W => Cs W a (askC g x me draw t) ∧ Cs W g.kb [pt g.tb 0, pt g.rb 0, .map (some g.hb), .map (some g.db), it κ.ticks], ⟨h.drew.get (i := 0) rfl, kCs (hk [_] _ h.drew)⟩, ?_⟩
    refine rNil <| rFA0 <| rLdI (fun W hW => hW.1) (v := pt g.kb 0) rfl ?_
    refine rNil <| rFA0 <| rLdI (fun W hW => hW.2) (v := pt g.rb 0) rfl ?_
    refine rNil <| rFA0 <| rFA <| rFA <| rLdI (fun W hW => hW.1) (v := it x.pj) rfl ?_
    refine rNil <| rFA0 <| rFA <| rLdI (fun W hW => hW.1) (v := it x.a) rfl ?_
    refine ⟨?_, trivial⟩
    have hget' : ¬ (κ.get (x.pi, x.pj) 4 ≠ 0) := by simp [hget]
    have ho2 := rooms_open h.drew (i := i + 1) (by simpa using hi)
    have hlen : ((κ.al x.pj).getD []).length ≤ 8 := by
      cases hal : κ.al x.pj with
      | none => simp
      | some l => simpa using wf.al _ _ hal
    refine post_spec ho2 hid ha1 ha2 hlen (fun h8 w4 h => ?_) (fun h8 w4 q h => ?_)
    · refine ⟨⟨h.get (i := 10) rfl, h.get (i := 4) rfl⟩, rExt0 (rExt1 (rIfF ?_))⟩
      have e : κ.post (x.pi, x.pj) x.a = (7, κ) := by unfold KP.post; rw [if_neg hget', if_pos h8]
      have h2 := rooms_close h (i + 1)
      have := k w4 g.AG ?_
      · rw [e] at this; exact this
      · rw [e]
        have h3 : Lx F w0 w4 (.blk a (askC g x me draw t) :: (L.set i .emp).set i (As.kern { g with AG := g.AG } κ)) := h2
        rw [List.set_set] at h3; exact h3
    · refine ⟨⟨h.get (i := 10) rfl, h.get (i := 4) rfl⟩, rExt0 (rExt1 ?_)⟩
      rw [htk]
      refine rIfF ?_
      have e : κ.post (x.pi, x.pj) x.a = (0, { κ with al := upF κ.al x.pj (some ((κ.al x.pj).getD [] ++ [x.a])), tk := upF κ.tk x.pj none }) := by
        unfold KP.post; rw [if_neg hget', if_neg (by simp only; omega)]
      have h2 := rooms_close h (i + 1)
      have := k w4 (upG g.AG x.pj q) ?_
      · rw [e] at this; exact this
      · rw [e]
        have h3 : Lx F w0 w4 (.blk a (askC g x me draw t) :: (L.set i .emp).set i (As.kern { g with AG := upG g.AG x.pj q } { κ with last := κ.last, tk := upF κ.tk x.pj none, al := upF κ.al x.pj (some ((κ.al x.pj).getD [] ++ [x.a])) })) := h2
        rw [List.set_set] at h3; exact h3
  · refine sExt30 (sExt31 (sExt2 ?_))
    refine sAlloc zc62 h (fun w2 b5 h => ?_)
    refine sStN h (i := 0) rfl hv1 (by simp [hv1]) hv2 (fun w3 h => ?_)
    refine rNe (sIfNE (fun _ => ?_) (fun h0 => absurd h0 hne))
    have e1 : κ.post (x.pi, x.pj) x.a = (e, κ) := by
      unfold KP.post
      rw [if_pos (by rw [hget]; exact hne), hget]
    have := k w3 g.AG ?_
    · rw [e1] at this; exact this
    · rw [e1]; exact hself _ (dropHead (A := [_]) h)

theorem threads_take {a : Nat} {x : CallP} {me draw : Int} {t : ToldP} {K : Value → World → Prop} (h : Lx F w0 w (.blk a (askC g x me draw t) :: L)) {i : Nat} (hi : L[i]? = some (As.kern g κ)) (hop : x.op = 25)
    (k : ∀ w' AG, Lx F w0 w' (.blk a (askC g x me draw (if (κ.take me).1 = 0 then { t with n := (κ.take me).2.1 } else t)) :: L.set i (As.kern { g with AG := AG } (κ.take me).2.2)) → K (it (κ.take me).1) w') : CallK Tryz.prog 62 #[pt a 0] w K := by
  have hk : ∀ (A : List As) W, Lx F w0 W (A ++ L) → (As.kern g κ).holds W := fun A W h => (dropHead h).get hi
  apply Ret.call
  apply F62_ok
  unfold F62
  refine rNil <| rFA0 <| rFA <| sLd h (i := 0) rfl (v := it x.op) rfl ?_
  rw [hop]
  refine rEq (rBool ?_)
  rw [if_neg (by decide)]
  refine rEq (rBool ?_)
  rw [if_pos (by decide)]
  refine ⟨fun W => Cs W a (askC g x me draw t) ∧ Cs W g.kb [pt g.tb 0, pt g.rb 0, .map (some g.hb), .map (some g.db), it κ.ticks], ⟨h.drew.get (i := 0) rfl, kCs (hk [_] _ h.drew)⟩, ?_⟩
  refine rNil <| rFA0 <| rLdI (fun W hW => hW.1) (v := pt g.kb 0) rfl ?_
  refine rNil <| rFA0 <| rLdI (fun W hW => hW.2) (v := pt g.rb 0) rfl ?_
  refine rNil <| rFA0 <| rLdI (fun W hW => hW.1) (v := it me) rfl ?_
  refine ⟨?_, trivial⟩
  have ho2 := rooms_open h.drew (i := i + 1) (by simpa using hi)
  refine take_spec ho2 (fun hnil w4 AG h => ?_) (fun n r hl w4 AG h => ?_)
  · refine ⟨⟨h.get (i := 10) rfl, h.get (i := 4) rfl⟩, rExt0 (rExt1 (rNot (rIfT ?_)))⟩
    have e : κ.take me = (10, 0, { κ with al := upF κ.al me none }) := by unfold KP.take; rw [hnil]
    have h2 := rooms_close h (i + 1)
    have := k w4 AG ?_
    · rw [e] at this; exact this
    · rw [e]
      have h3 : Lx F w0 w4 (.blk a (askC g x me draw t) :: (L.set i .emp).set i (As.kern { g with AG := AG } { κ with last := κ.last, tk := κ.tk, al := upF κ.al me none })) := h2
      rw [List.set_set] at h3; exact h3
  · refine ⟨⟨h.get (i := 10) rfl, h.get (i := 4) rfl⟩, rExt0 (rExt1 (rNot (rIfF ?_)))⟩
    have e : κ.take me = (0, n, { κ with al := upF κ.al me (if r = [] then none else some r) }) := by unfold KP.take; rw [hl]
    have h2 := rooms_close h (i + 1)
    have h3 : Lx F w0 w4 (.blk a (askC g x me draw t) :: (L.set i .emp).set i (As.kern { g with AG := AG } { κ with last := κ.last, tk := κ.tk, al := upF κ.al me (if r = [] then none else some r) })) := h2
    rw [List.set_set] at h3
    refine rNil <| rFA0 <| rFA ?_
    refine sSt h3 (i := 0) rfl (by simp [askC]) rfl (by simp) (fun w5 h => ?_)
    have := k w5 AG ?_
    · rw [e] at this; exact this
    · rw [e]; exact h

end

end Go.Proofs.YtdkklhnleppfcaaGreat

/-
  The kernel: Do, for each of its calls (printed by tool/mkdo.py). Own work.
-/
set_option linter.unusedVariables false
set_option linter.unusedSimpArgs false
set_option maxRecDepth 100000
namespace Go.Proofs.YtdkklhnleppfcaaGreat
open Go Go.V Go.X Go.RowKit

def doTail (b8 a : Nat) (v : Value) (W : World) (K : Value → World → Prop) : Prop :=
  vBin (.int .i64) .neq v (.int .i64 0) fun v89 =>
  vBool v89 fun c_3 => if c_3 = true then
   (vBuild Tryz.prog 52 [] fun v90 =>
   vSt (some 8) (pt b8 0) v90 W fun w_8 =>
   leaveV [] w_8 fun W => vLd (.agg 8) (pt b8 0) W fun r_2 => K (.tuple #[r_2, v]) W)
  else
  vNilP Tryz.prog (pt a 0) fun v93 =>
  vFA (some 27) v93 fun v94 =>
  vLd (.agg 8) v94 W fun v95 =>
  vSt (some 8) (pt b8 0) v95 W fun w_9 =>
  leaveV [] w_9 fun W => vLd (.agg 8) (pt b8 0) W fun r_3 => K (.tuple #[r_3, (.int .i64 0)]) W

theorem b52e : (fun (K : Value → Prop) => vBuild Tryz.prog 52 [] K) = fun K => K (.agg (toldC toldZ).toArray) := by kernel_rfl
theorem build52e {K : Value → Prop} (k : K (.agg (toldC toldZ).toArray)) : vBuild Tryz.prog 52 [] K := by
  have := congrFun b52e K
  exact this ▸ k
theorem told_one (t : ToldP) : ∀ x ∈ (toldC t).toArray.toList, x.oneCell' = true := by
  intro x hx
  simp [toldC] at hx
  rcases hx with rfl | rfl | rfl | rfl | rfl | rfl <;> rfl
theorem zc52' : zc Tryz.prog 52 = some (toldC toldZ).toArray := by kernel_rfl

section
variable {F : Nat → Prop} {w0 w : World} {L : List As} {g : KG} {κ : KP}

theorem do_tail {a b8 b6 : Nat} {x : CallP} {cs : List Value} {me draw e : Int} {t : ToldP} {K : Value → World → Prop} (h : Lx F w0 w (.blk a (askC g x me draw t) :: .blk b8 (toldC toldZ) :: .blk b6 cs :: L))
    (k0 : e = 0 → ∀ w', Lx F w0 w' L → K (.tuple #[.agg (toldC t).toArray, it 0]) w') (k1 : e ≠ 0 → ∀ w', Lx F w0 w' L → K (.tuple #[.agg (toldC toldZ).toArray, it e]) w') : doTail b8 a (it e) w K := by
  unfold doTail
  refine rNe (sIfNE (fun he => ?_) (fun he => ?_))
  · refine build52e ?_
    refine sStN h (i := 1) rfl rfl (by simp [toldC]) (told_one _) (fun w1 h => ?_)
    unfold leaveV
    refine sLdN h (i := 1) rfl (by simp [spl, toldC]) ?_
    have := k1 he w1 (h.sub (.cons _ (.cons _ (.cons _ (List.Sublist.refl _)))))
    exact this
  · refine rNil <| rFA0 <| sLdP h (i := 0) rfl (by simp [askC]) ?_
    refine sStN h (i := 1) rfl rfl (by simp [toldC, askC]) (told_one t) (fun w1 h => ?_)
    unfold leaveV
    refine sLdN h (i := 1) rfl (by simp [spl, toldC, askC]) ?_
    have := k0 he w1 (h.sub (.cons _ (.cons _ (.cons _ (List.Sublist.refl _)))))
    exact this

theorem call_one (x : CallP) : ∀ y ∈ (callC x).toArray.toList, y.oneCell' = true := by
  intro y hy
  simp [callC] at hy
  rcases hy with rfl | rfl | rfl | rfl | rfl | rfl | rfl | rfl | rfl | rfl | rfl | rfl | rfl | rfl | rfl <;> rfl

theorem do_14 {x : CallP} {me draw : Int} {K : Value → World → Prop} (h : Lx F w0 w L) {i : Nat} (hi : L[i]? = some (As.kern g κ)) (hop : x.op = 14) (wf : κ.Wf) (hm : g.mine κ me)
    (kdead : κ.runs me = false → ∀ w', Lx F w0 w' L → K (.tuple #[.agg (toldC toldZ).toArray, it 11]) w')
    (ksub : κ.runs me = true → ∀ w1 a b8 b6, Lx F w0 w1 (.blk a (askC g x me draw toldZ) :: .blk b8 (toldC toldZ) :: .blk b6 (callC x) :: L) → CallK Tryz.prog 60 #[pt a 0] w1 fun v w' => doTail b8 a v w' K) :
    CallK Tryz.prog 18 #[pt g.kb 0, it me, .agg (callC x).toArray, it draw] w K := by
  apply Ret.call
  apply F18_ok
  unfold F18
  refine sBox h (fun w1 b6 h => ?_)
  refine sAlloc zc52' h (fun w2 b8 h => ?_)
  have h : Lx F w0 w2 ([.blk b8 (toldC toldZ), .blk b6 (callC x)] ++ L) := h
  refine begin_spec h (fun W hW => (dropHead hW).get hi) wf hm (fun hr w3 a h => ?_) (fun hr w3 h => ?_)
  · refine rExt0 (rExt1 (rNe (rBool ?_)))
    rw [if_neg (by decide)]
    refine sLdN h (i := 2) rfl rfl ?_
    refine rNil <| rFA0 <| sStN h (i := 0) rfl rfl (by simp [askC, callC]) (call_one x) (fun w4 h => ?_)
    refine rNil <| rFA0 <| sSt h (i := 0) rfl (by simp [askC, callC, spl]) rfl (by simp) (fun w5 h => ?_)
    have h : Lx F w0 w5 (.blk a (askC g x me draw toldZ) :: .blk b8 (toldC toldZ) :: .blk b6 (callC x) :: L) := h
    refine rFA0 (sLd h (i := 2) rfl (v := it x.op) rfl ?_)
    have hsub := ksub hr w5 a b8 b6 h
    refine sJoin ?_
    rw [hop]
    refine rEq (rBool ?_)
    rw [if_neg (by decide)]
    refine rEq (rBool ?_)
    rw [if_neg (by decide)]
    refine rEq (rBool ?_)
    rw [if_neg (by decide)]
    refine rEq ?_
    intro ρ hρ
    simp only [List.map_cons, List.map_nil, List.cons.injEq, and_true] at hρ
    obtain ⟨e8, e10, e31, e32⟩ := hρ
    unfold F18J2
    simp only [e8, e10, e31, e32]
    clear e8 e10 e31 e32 ρ
    refine rIfF ?_
    refine sJoin ?_
    refine rEq (rBool ?_)
    rw [if_neg (by decide)]
    refine rEq (rBool ?_)
    rw [if_neg (by decide)]
    refine rEq (rBool ?_)
    rw [if_neg (by decide)]
    refine rEq (rBool ?_)
    rw [if_neg (by decide)]
    refine rEq (rBool ?_)
    rw [if_neg (by decide)]
    refine rEq ?_
    intro ρ hρ
    simp only [List.map_cons, List.map_nil, List.cons.injEq, and_true] at hρ
    obtain ⟨e8, e10, e31, e39⟩ := hρ
    unfold F18J3
    simp only [e8, e10, e31, e39]
    clear e8 e10 e31 e39 ρ
    refine rIfF ?_
    refine sJoin ?_
    refine rEq (rBool ?_)
    rw [if_neg (by decide)]
    refine rEq (rBool ?_)
    rw [if_neg (by decide)]
    refine rEq (rBool ?_)
    rw [if_neg (by decide)]
    refine rEq (rBool ?_)
    rw [if_neg (by decide)]
    refine rEq ?_
    intro ρ hρ
    simp only [List.map_cons, List.map_nil, List.cons.injEq, and_true] at hρ
    obtain ⟨e8, e10, e31, e48⟩ := hρ
    unfold F18J4
    simp only [e8, e10, e31, e48]
    clear e8 e10 e31 e48 ρ
    refine rIfF ?_
    refine sJoin ?_
    refine rEq (rBool ?_)
    rw [if_pos (by decide)]
    intro ρ hρ
    simp only [List.map_cons, List.map_nil, List.cons.injEq, and_true] at hρ
    obtain ⟨e8, e10, e31, e56⟩ := hρ
    unfold F18J5
    simp only [e8, e10, e31, e56]
    clear e8 e10 e31 e56 ρ
    refine rIfT ?_
    exact hsub
  · refine rExt0 (rExt1 (rNe (rBool ?_)))
    rw [if_pos (by decide)]
    refine build52e ?_
    refine sStN h (i := 0) rfl rfl (by simp [toldC]) (told_one _) (fun w4 h => ?_)
    refine sLdN h (i := 0) rfl (by simp [spl, toldC]) ?_
    exact kdead hr w4 (dropHead (A := [_, _]) h)

theorem do_15 {x : CallP} {me draw : Int} {K : Value → World → Prop} (h : Lx F w0 w L) {i : Nat} (hi : L[i]? = some (As.kern g κ)) (hop : x.op = 15) (wf : κ.Wf) (hm : g.mine κ me)
    (kdead : κ.runs me = false → ∀ w', Lx F w0 w' L → K (.tuple #[.agg (toldC toldZ).toArray, it 11]) w')
    (ksub : κ.runs me = true → ∀ w1 a b8 b6, Lx F w0 w1 (.blk a (askC g x me draw toldZ) :: .blk b8 (toldC toldZ) :: .blk b6 (callC x) :: L) → CallK Tryz.prog 60 #[pt a 0] w1 fun v w' => doTail b8 a v w' K) :
    CallK Tryz.prog 18 #[pt g.kb 0, it me, .agg (callC x).toArray, it draw] w K := by
  apply Ret.call
  apply F18_ok
  unfold F18
  refine sBox h (fun w1 b6 h => ?_)
  refine sAlloc zc52' h (fun w2 b8 h => ?_)
  have h : Lx F w0 w2 ([.blk b8 (toldC toldZ), .blk b6 (callC x)] ++ L) := h
  refine begin_spec h (fun W hW => (dropHead hW).get hi) wf hm (fun hr w3 a h => ?_) (fun hr w3 h => ?_)
  · refine rExt0 (rExt1 (rNe (rBool ?_)))
    rw [if_neg (by decide)]
    refine sLdN h (i := 2) rfl rfl ?_
    refine rNil <| rFA0 <| sStN h (i := 0) rfl rfl (by simp [askC, callC]) (call_one x) (fun w4 h => ?_)
    refine rNil <| rFA0 <| sSt h (i := 0) rfl (by simp [askC, callC, spl]) rfl (by simp) (fun w5 h => ?_)
    have h : Lx F w0 w5 (.blk a (askC g x me draw toldZ) :: .blk b8 (toldC toldZ) :: .blk b6 (callC x) :: L) := h
    refine rFA0 (sLd h (i := 2) rfl (v := it x.op) rfl ?_)
    have hsub := ksub hr w5 a b8 b6 h
    refine sJoin ?_
    rw [hop]
    refine rEq (rBool ?_)
    rw [if_neg (by decide)]
    refine rEq (rBool ?_)
    rw [if_neg (by decide)]
    refine rEq (rBool ?_)
    rw [if_neg (by decide)]
    refine rEq ?_
    intro ρ hρ
    simp only [List.map_cons, List.map_nil, List.cons.injEq, and_true] at hρ
    obtain ⟨e8, e10, e31, e32⟩ := hρ
    unfold F18J2
    simp only [e8, e10, e31, e32]
    clear e8 e10 e31 e32 ρ
    refine rIfF ?_
    refine sJoin ?_
    refine rEq (rBool ?_)
    rw [if_neg (by decide)]
    refine rEq (rBool ?_)
    rw [if_neg (by decide)]
    refine rEq (rBool ?_)
    rw [if_neg (by decide)]
    refine rEq (rBool ?_)
    rw [if_neg (by decide)]
    refine rEq (rBool ?_)
    rw [if_neg (by decide)]
    refine rEq ?_
    intro ρ hρ
    simp only [List.map_cons, List.map_nil, List.cons.injEq, and_true] at hρ
    obtain ⟨e8, e10, e31, e39⟩ := hρ
    unfold F18J3
    simp only [e8, e10, e31, e39]
    clear e8 e10 e31 e39 ρ
    refine rIfF ?_
    refine sJoin ?_
    refine rEq (rBool ?_)
    rw [if_neg (by decide)]
    refine rEq (rBool ?_)
    rw [if_neg (by decide)]
    refine rEq (rBool ?_)
    rw [if_neg (by decide)]
    refine rEq (rBool ?_)
    rw [if_neg (by decide)]
    refine rEq ?_
    intro ρ hρ
    simp only [List.map_cons, List.map_nil, List.cons.injEq, and_true] at hρ
    obtain ⟨e8, e10, e31, e48⟩ := hρ
    unfold F18J4
    simp only [e8, e10, e31, e48]
    clear e8 e10 e31 e48 ρ
    refine rIfF ?_
    refine sJoin ?_
    refine rEq (rBool ?_)
    rw [if_neg (by decide)]
    refine rEq (rBool ?_)
    rw [if_pos (by decide)]
    intro ρ hρ
    simp only [List.map_cons, List.map_nil, List.cons.injEq, and_true] at hρ
    obtain ⟨e8, e10, e31, e56⟩ := hρ
    unfold F18J5
    simp only [e8, e10, e31, e56]
    clear e8 e10 e31 e56 ρ
    refine rIfT ?_
    exact hsub
  · refine rExt0 (rExt1 (rNe (rBool ?_)))
    rw [if_pos (by decide)]
    refine build52e ?_
    refine sStN h (i := 0) rfl rfl (by simp [toldC]) (told_one _) (fun w4 h => ?_)
    refine sLdN h (i := 0) rfl (by simp [spl, toldC]) ?_
    exact kdead hr w4 (dropHead (A := [_, _]) h)

theorem do_24 {x : CallP} {me draw : Int} {K : Value → World → Prop} (h : Lx F w0 w L) {i : Nat} (hi : L[i]? = some (As.kern g κ)) (hop : x.op = 24) (wf : κ.Wf) (hm : g.mine κ me)
    (kdead : κ.runs me = false → ∀ w', Lx F w0 w' L → K (.tuple #[.agg (toldC toldZ).toArray, it 11]) w')
    (ksub : κ.runs me = true → ∀ w1 a b8 b6, Lx F w0 w1 (.blk a (askC g x me draw toldZ) :: .blk b8 (toldC toldZ) :: .blk b6 (callC x) :: L) → CallK Tryz.prog 62 #[pt a 0] w1 fun v w' => doTail b8 a v w' K) :
    CallK Tryz.prog 18 #[pt g.kb 0, it me, .agg (callC x).toArray, it draw] w K := by
  apply Ret.call
  apply F18_ok
  unfold F18
  refine sBox h (fun w1 b6 h => ?_)
  refine sAlloc zc52' h (fun w2 b8 h => ?_)
  have h : Lx F w0 w2 ([.blk b8 (toldC toldZ), .blk b6 (callC x)] ++ L) := h
  refine begin_spec h (fun W hW => (dropHead hW).get hi) wf hm (fun hr w3 a h => ?_) (fun hr w3 h => ?_)
  · refine rExt0 (rExt1 (rNe (rBool ?_)))
    rw [if_neg (by decide)]
    refine sLdN h (i := 2) rfl rfl ?_
    refine rNil <| rFA0 <| sStN h (i := 0) rfl rfl (by simp [askC, callC]) (call_one x) (fun w4 h => ?_)
    refine rNil <| rFA0 <| sSt h (i := 0) rfl (by simp [askC, callC, spl]) rfl (by simp) (fun w5 h => ?_)
    have h : Lx F w0 w5 (.blk a (askC g x me draw toldZ) :: .blk b8 (toldC toldZ) :: .blk b6 (callC x) :: L) := h
    refine rFA0 (sLd h (i := 2) rfl (v := it x.op) rfl ?_)
    have hsub := ksub hr w5 a b8 b6 h
    refine sJoin ?_
    rw [hop]
    refine rEq (rBool ?_)
    rw [if_neg (by decide)]
    refine rEq (rBool ?_)
    rw [if_neg (by decide)]
    refine rEq (rBool ?_)
    rw [if_neg (by decide)]
    refine rEq ?_
    intro ρ hρ
    simp only [List.map_cons, List.map_nil, List.cons.injEq, and_true] at hρ
    obtain ⟨e8, e10, e31, e32⟩ := hρ
    unfold F18J2
    simp only [e8, e10, e31, e32]
    clear e8 e10 e31 e32 ρ
    refine rIfF ?_
    refine sJoin ?_
    refine rEq (rBool ?_)
    rw [if_neg (by decide)]
    refine rEq (rBool ?_)
    rw [if_neg (by decide)]
    refine rEq (rBool ?_)
    rw [if_neg (by decide)]
    refine rEq (rBool ?_)
    rw [if_neg (by decide)]
    refine rEq (rBool ?_)
    rw [if_neg (by decide)]
    refine rEq ?_
    intro ρ hρ
    simp only [List.map_cons, List.map_nil, List.cons.injEq, and_true] at hρ
    obtain ⟨e8, e10, e31, e39⟩ := hρ
    unfold F18J3
    simp only [e8, e10, e31, e39]
    clear e8 e10 e31 e39 ρ
    refine rIfF ?_
    refine sJoin ?_
    refine rEq (rBool ?_)
    rw [if_neg (by decide)]
    refine rEq (rBool ?_)
    rw [if_neg (by decide)]
    refine rEq (rBool ?_)
    rw [if_neg (by decide)]
    refine rEq (rBool ?_)
    rw [if_neg (by decide)]
    refine rEq ?_
    intro ρ hρ
    simp only [List.map_cons, List.map_nil, List.cons.injEq, and_true] at hρ
    obtain ⟨e8, e10, e31, e48⟩ := hρ
    unfold F18J4
    simp only [e8, e10, e31, e48]
    clear e8 e10 e31 e48 ρ
    refine rIfF ?_
    refine sJoin ?_
    refine rEq (rBool ?_)
    rw [if_neg (by decide)]
    refine rEq (rBool ?_)
    rw [if_neg (by decide)]
    refine rEq (rBool ?_)
    rw [if_neg (by decide)]
    refine rEq (rBool ?_)
    rw [if_neg (by decide)]
    refine rEq (rBool ?_)
    rw [if_neg (by decide)]
    refine rEq ?_
    intro ρ hρ
    simp only [List.map_cons, List.map_nil, List.cons.injEq, and_true] at hρ
    obtain ⟨e8, e10, e31, e56⟩ := hρ
    unfold F18J5
    simp only [e8, e10, e31, e56]
    clear e8 e10 e31 e56 ρ
    refine rIfF ?_
    refine sJoin ?_
    refine rEq (rBool ?_)
    rw [if_neg (by decide)]
    refine rEq (rBool ?_)
    rw [if_neg (by decide)]
    refine rEq (rBool ?_)
    rw [if_neg (by decide)]
    refine rEq ?_
    intro ρ hρ
    simp only [List.map_cons, List.map_nil, List.cons.injEq, and_true] at hρ
    obtain ⟨e8, e10, e31, e65⟩ := hρ
    unfold F18J6
    simp only [e8, e10, e31, e65]
    clear e8 e10 e31 e65 ρ
    refine rIfF ?_
    refine sJoin ?_
    refine rEq (rBool ?_)
    rw [if_pos (by decide)]
    intro ρ hρ
    simp only [List.map_cons, List.map_nil, List.cons.injEq, and_true] at hρ
    obtain ⟨e8, e10, e31, e72⟩ := hρ
    unfold F18J7
    simp only [e8, e10, e31, e72]
    clear e8 e10 e31 e72 ρ
    refine rIfT ?_
    exact hsub
  · refine rExt0 (rExt1 (rNe (rBool ?_)))
    rw [if_pos (by decide)]
    refine build52e ?_
    refine sStN h (i := 0) rfl rfl (by simp [toldC]) (told_one _) (fun w4 h => ?_)
    refine sLdN h (i := 0) rfl (by simp [spl, toldC]) ?_
    exact kdead hr w4 (dropHead (A := [_, _]) h)

theorem do_25 {x : CallP} {me draw : Int} {K : Value → World → Prop} (h : Lx F w0 w L) {i : Nat} (hi : L[i]? = some (As.kern g κ)) (hop : x.op = 25) (wf : κ.Wf) (hm : g.mine κ me)
    (kdead : κ.runs me = false → ∀ w', Lx F w0 w' L → K (.tuple #[.agg (toldC toldZ).toArray, it 11]) w')
    (ksub : κ.runs me = true → ∀ w1 a b8 b6, Lx F w0 w1 (.blk a (askC g x me draw toldZ) :: .blk b8 (toldC toldZ) :: .blk b6 (callC x) :: L) → CallK Tryz.prog 62 #[pt a 0] w1 fun v w' => doTail b8 a v w' K) :
    CallK Tryz.prog 18 #[pt g.kb 0, it me, .agg (callC x).toArray, it draw] w K := by
  apply Ret.call
  apply F18_ok
  unfold F18
  refine sBox h (fun w1 b6 h => ?_)
  refine sAlloc zc52' h (fun w2 b8 h => ?_)
  have h : Lx F w0 w2 ([.blk b8 (toldC toldZ), .blk b6 (callC x)] ++ L) := h
  refine begin_spec h (fun W hW => (dropHead hW).get hi) wf hm (fun hr w3 a h => ?_) (fun hr w3 h => ?_)
  · refine rExt0 (rExt1 (rNe (rBool ?_)))
    rw [if_neg (by decide)]
    refine sLdN h (i := 2) rfl rfl ?_
    refine rNil <| rFA0 <| sStN h (i := 0) rfl rfl (by simp [askC, callC]) (call_one x) (fun w4 h => ?_)
    refine rNil <| rFA0 <| sSt h (i := 0) rfl (by simp [askC, callC, spl]) rfl (by simp) (fun w5 h => ?_)
    have h : Lx F w0 w5 (.blk a (askC g x me draw toldZ) :: .blk b8 (toldC toldZ) :: .blk b6 (callC x) :: L) := h
    refine rFA0 (sLd h (i := 2) rfl (v := it x.op) rfl ?_)
    have hsub := ksub hr w5 a b8 b6 h
    refine sJoin ?_
    rw [hop]
    refine rEq (rBool ?_)
    rw [if_neg (by decide)]
    refine rEq (rBool ?_)
    rw [if_neg (by decide)]
    refine rEq (rBool ?_)
    rw [if_neg (by decide)]
    refine rEq ?_
    intro ρ hρ
    simp only [List.map_cons, List.map_nil, List.cons.injEq, and_true] at hρ
    obtain ⟨e8, e10, e31, e32⟩ := hρ
    unfold F18J2
    simp only [e8, e10, e31, e32]
    clear e8 e10 e31 e32 ρ
    refine rIfF ?_
    refine sJoin ?_
    refine rEq (rBool ?_)
    rw [if_neg (by decide)]
    refine rEq (rBool ?_)
    rw [if_neg (by decide)]
    refine rEq (rBool ?_)
    rw [if_neg (by decide)]
    refine rEq (rBool ?_)
    rw [if_neg (by decide)]
    refine rEq (rBool ?_)
    rw [if_neg (by decide)]
    refine rEq ?_
    intro ρ hρ
    simp only [List.map_cons, List.map_nil, List.cons.injEq, and_true] at hρ
    obtain ⟨e8, e10, e31, e39⟩ := hρ
    unfold F18J3
    simp only [e8, e10, e31, e39]
    clear e8 e10 e31 e39 ρ
    refine rIfF ?_
    refine sJoin ?_
    refine rEq (rBool ?_)
    rw [if_neg (by decide)]
    refine rEq (rBool ?_)
    rw [if_neg (by decide)]
    refine rEq (rBool ?_)
    rw [if_neg (by decide)]
    refine rEq (rBool ?_)
    rw [if_neg (by decide)]
    refine rEq ?_
    intro ρ hρ
    simp only [List.map_cons, List.map_nil, List.cons.injEq, and_true] at hρ
    obtain ⟨e8, e10, e31, e48⟩ := hρ
    unfold F18J4
    simp only [e8, e10, e31, e48]
    clear e8 e10 e31 e48 ρ
    refine rIfF ?_
    refine sJoin ?_
    refine rEq (rBool ?_)
    rw [if_neg (by decide)]
    refine rEq (rBool ?_)
    rw [if_neg (by decide)]
    refine rEq (rBool ?_)
    rw [if_neg (by decide)]
    refine rEq (rBool ?_)
    rw [if_neg (by decide)]
    refine rEq (rBool ?_)
    rw [if_neg (by decide)]
    refine rEq ?_
    intro ρ hρ
    simp only [List.map_cons, List.map_nil, List.cons.injEq, and_true] at hρ
    obtain ⟨e8, e10, e31, e56⟩ := hρ
    unfold F18J5
    simp only [e8, e10, e31, e56]
    clear e8 e10 e31 e56 ρ
    refine rIfF ?_
    refine sJoin ?_
    refine rEq (rBool ?_)
    rw [if_neg (by decide)]
    refine rEq (rBool ?_)
    rw [if_neg (by decide)]
    refine rEq (rBool ?_)
    rw [if_neg (by decide)]
    refine rEq ?_
    intro ρ hρ
    simp only [List.map_cons, List.map_nil, List.cons.injEq, and_true] at hρ
    obtain ⟨e8, e10, e31, e65⟩ := hρ
    unfold F18J6
    simp only [e8, e10, e31, e65]
    clear e8 e10 e31 e65 ρ
    refine rIfF ?_
    refine sJoin ?_
    refine rEq (rBool ?_)
    rw [if_neg (by decide)]
    refine rEq (rBool ?_)
    rw [if_pos (by decide)]
    intro ρ hρ
    simp only [List.map_cons, List.map_nil, List.cons.injEq, and_true] at hρ
    obtain ⟨e8, e10, e31, e72⟩ := hρ
    unfold F18J7
    simp only [e8, e10, e31, e72]
    clear e8 e10 e31 e72 ρ
    refine rIfT ?_
    exact hsub
  · refine rExt0 (rExt1 (rNe (rBool ?_)))
    rw [if_pos (by decide)]
    refine build52e ?_
    refine sStN h (i := 0) rfl rfl (by simp [toldC]) (told_one _) (fun w4 h => ?_)
    refine sLdN h (i := 0) rfl (by simp [spl, toldC]) ?_
    exact kdead hr w4 (dropHead (A := [_, _]) h)

end

end Go.Proofs.YtdkklhnleppfcaaGreat
