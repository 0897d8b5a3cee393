/-
  procs.Kill, of what doesn't end, and procs.Signal. Own work.
-/
import Derived.Test.YtdkklhnleppfcaaGreatSg26
import Derived.Test.YtdkklhnleppfcaaGreatSg14
import Derived.Test.YtdkklhnleppfcaaGreatSg07
set_option linter.unusedVariables false
set_option linter.unusedSimpArgs false

set_option linter.unusedVariables false
set_option linter.unusedSimpArgs false
set_option maxRecDepth 100000
namespace Go.Proofs.YtdkklhnleppfcaaGreat
open Go Go.V Go.X Go.RowKit

theorem lx_perm {F : Nat → Prop} {w0 w : World} {L L' : List As} (h : Lx F w0 w L) (p : L.Perm L') : Lx F w0 w L' :=
  ⟨h.fr, fun a ha => h.ok a (p.mem_iff.2 ha), fun a ha => h.mine a (p.mem_iff.2 ha), (p.pairwise_iff (fun {a b} hab k hk hk2 => hab k hk2 hk)).1 h.dj⟩
theorem toFront {F : Nat → Prop} {w0 w : World} {A B C : List As} (h : Lx F w0 w (A ++ (B ++ C))) : Lx F w0 w (B ++ (A ++ C)) :=
  lx_perm h (by
    rw [← List.append_assoc, ← List.append_assoc]
    exact List.Perm.append_right C List.perm_append_comm)

section
variable {F : Nat → Prop} {w0 w : World} {R : List As} {g : KG} {κ : KP} {q : PG} {rs : List Rec}

theorem tabR_cell {i f : Nat} {r : Rec} {v : Value} (hr : rs[i]? = some r) (hlen : rs.length = 32) (hv : (recC i r)[f]? = some v) : (tabR rs)[i * 6 + f]? = some v := by
  have h1 : (rowsP rs 32)[i]? = some (recC i r) := by
    unfold rowsP
    have hi := (List.getElem?_eq_some_iff.1 hr).1
    rw [List.getElem?_mapIdx, hr]
    simp; omega
  have := flat_cell (m := 6) (xs := rowsP rs 32) [] rowsP_six h1 hv
  rw [List.append_nil] at this
  exact this

def killE (e : Int) : Int := if e = 7 then 10 else sayE e

theorem kill_spec {t d sig : Int} {i j : Nat} {r x : Rec} {K : Value → World → Prop} (h : Lx F w0 w (procsL g κ q ++ R)) (pw : PW κ q rs) (hm : g.mine κ t) (hr : κ.runs t = true) (hme : meO rs t 32 = some (j, r))
    (hx : rs[i]? = some x) (hpar : x.parent ≠ 0) (hend : x.ended = false) (hs1 : 1 ≤ sig) (hs2 : sig ≤ 31) (hs9 : sig ≠ 9) (hid : idB x.thread = true) (htk : κ.tk x.thread = none)
    (k : ∀ w' HG AG, Lx F w0 w' (procsL { g with HG := HG, AG := AG } (κ.post (q.home, x.thread) sig).2 q ++ R) → K (it (killE (κ.post (q.home, x.thread) sig).1)) w') :
    CallK Tryz.prog 14 #[pt q.pb 0, .agg #[it t, it d], it (i + 1 : Nat), it sig] w K := by
  have hi := (List.getElem?_eq_some_iff.1 hx).1
  have hlen := pw.len
  apply Ret.call
  apply F14_ok
  unfold F14
  refine sBox h (fun w1 b5 h => ?_)
  refine sLdN h (i := 0) rfl rfl ?_
  have h := toFront (A := [.blk b5 [it t, it d]]) (B := procsL g κ q) (C := R) h
  refine pread_spec h pw hm (fun hd => by rw [hr] at hd; cases hd) (fun _ j' r' hme' w2 p HG h => ?_) (fun _ hn => by rw [hme] at hn; cases hn)
  refine sExt30 (sExt31 (sExt2 ?_))
  refine sAlloc zc77z h (fun w3 b10 h => ?_)
  refine sStN h (i := 0) rfl rfl (by simp [zrec, recC]) (by simpa using recC_one j' r') (fun w4 h => ?_)
  have h : Lx F w0 w4 (.blk p (tabR rs) :: (procsL { g with HG := HG } κ q ++ ([.blk b5 [it t, it d]] ++ R))) := dropHead (A := [_]) h
  refine sJoin ?_
  refine rNe (rBool ?_)
  rw [if_neg (by decide)]
  refine sJoin ?_
  refine rLt (rBool ?_)
  rw [if_neg (by simp; omega)]
  refine rGt ?_
  rw [decide_eq_false (by omega)]
  intro ρ hρ
  simp only [List.map_cons, List.map_nil, List.cons.injEq, and_true] at hρ
  obtain ⟨e0, e2, e3, e5, e9, e25⟩ := hρ
  unfold F14J2
  simp only [e0, e2, e3, e5, e9, e25]
  clear e0 e2 e3 e5 e9 e25 ρ
  refine rIfF ?_
  refine sJoin ?_
  refine rLt (rBool ?_)
  rw [if_neg (by simp; omega)]
  refine rGt (rBool ?_)
  rw [if_neg (by simp; omega)]
  refine rSub (by omega) (by omega) ?_
  have ei : (((i + 1 : Nat) : Int) - 1) = (i : Int) := by omega
  rw [ei]
  refine rNil ?_
  refine rIAa (i := i) (by omega) ?_
  refine rFA (sLd h (i := 0) rfl (v := it x.parent) (by rw [Nat.zero_add]; exact tabR_cell hx hlen rfl) ?_)
  refine rEq ?_
  have e0 : (x.parent == 0) = false := by simpa using hpar
  rw [e0]
  intro ρ hρ
  simp only [List.map_cons, List.map_nil, List.cons.injEq, and_true] at hρ
  obtain ⟨e0, e2, e3, e5, e9, e32⟩ := hρ
  unfold F14J3
  simp only [e0, e2, e3, e5, e9, e32]
  clear e0 e2 e3 e5 e9 e32 ρ
  refine rIfF ?_
  refine rSub (by omega) (by omega) ?_
  rw [ei]
  refine rNil ?_
  refine rIAa (i := i) (by omega) ?_
  refine rFA (sLd h (i := 0) rfl (v := .bool x.ended) (by rw [Nat.zero_add]; exact tabR_cell hx hlen rfl) ?_)
  rw [hend]
  refine rIfF ?_
  refine rEq (sIfE (fun h0 => by omega) (fun _ => ?_))
  refine rEq (sIfE (fun h0 => absurd h0 hs9) (fun _ => ?_))
  intro ρ hρ
  simp only [List.map_cons, List.map_nil, List.cons.injEq, and_true] at hρ
  obtain ⟨e0, e2, e3, e5, e9⟩ := hρ
  unfold F14J1
  simp only [e0, e2, e3, e5, e9]
  clear e0 e2 e3 e5 e9 ρ
  refine rSub (by omega) (by omega) ?_
  rw [ei]
  refine rNil ?_
  refine rIAa (i := i) (by omega) ?_
  rw [Nat.zero_add]
  refine rLdC (h.get (i := 0) rfl) (xs := recC i x) rfl (by rw [show (recC i x).length = 6 from rfl]; exact tabR_at hlen hx) (by rw [tabR_len hlen, show (recC i x).length = 6 from rfl]; omega) ?_
  refine sAlloc zc77z h (fun w5 b12 h => ?_)
  refine sStN h (i := 0) rfl rfl (by simp [zrec, recC]) (by simpa using recC_one i x) (fun w6 h => ?_)
  have h : Lx F w0 w6 (.blk b12 (recC i x) :: .blk p (tabR rs) :: (procsL { g with HG := HG } κ q ++ ([.blk b5 [it t, it d]] ++ R))) := h
  refine rEq (sIfE (fun h0 => absurd h0 hs9) (fun _ => ?_))
  refine ⟨fun W => Cs W b12 (recC i x) ∧ Cs W q.pb (procsC g q) ∧ Cs W b5 [it t, it d], ⟨h.drew.get (i := 0) rfl, h.drew.get (i := 3) rfl, h.drew.get (i := 5) rfl⟩, ?_⟩
  refine rNil <| rFA0 <| rLdI (fun W hW => hW.2.1) (v := pt g.kb 0) rfl ?_
  refine rFA0 <| rLdI (fun W hW => hW.2.2) (v := it t) rfl ?_
  refine rFA0 <| rLdI (fun W hW => hW.1) (v := it x.thread) rfl ?_
  refine ⟨?_, trivial⟩
  refine home_spec (g := g) (q := q) h.drew (fun W hW => hW.get (i := 3) rfl) (fun W hW => hW.get (i := 4) rfl) (fun w7 h => ⟨⟨h.get (i := 0) rfl, h.get (i := 3) rfl, h.get (i := 5) rfl⟩, build60_24 ⟨?_, trivial⟩⟩)
  refine kdo_post (g := { g with HG := HG }) (r := (q.home, x.thread)) h (i := 2) rfl pw.wf hm pw.boxed hid (by omega) (by omega) htk (fun hd => by rw [hr] at hd; cases hd) (fun _ w8 AG h => ?_)
  refine ⟨⟨h.get (i := 0) rfl, h.get (i := 3) rfl, h.get (i := 5) rfl⟩, rExt0 (rExt1 ?_)⟩
  have h9 : Lx F w0 w8 (procsL { g with HG := HG, AG := AG } (κ.post (q.home, x.thread) sig).2 q ++ R) := by
    have h' : Lx F w0 w8 ([.blk b12 (recC i x), .blk p (tabR rs)] ++ (procsL { g with HG := HG, AG := AG } (κ.post (q.home, x.thread) sig).2 q ++ ([.blk b5 [it t, it d]] ++ R))) := h
    exact dropHead (A := [_]) (toFront (dropHead h'))
  have kk := k w8 HG AG h9
  refine rEq (sIfE (fun h7 => ?_) (fun h7 => ?_))
  · unfold leaveV
    unfold killE at kk
    rw [if_pos h7] at kk; exact kk
  · unfold killE at kk
    rw [if_neg h7] at kk
    refine say_spec ?_
    unfold leaveV
    exact kk

theorem signal_spec {t d : Int} {j : Nat} {r : Rec} {K : Value → World → Prop} (h : Lx F w0 w (procsL g κ q ++ R)) (pw : PW κ q rs) (hm : g.mine κ t) (hr : κ.runs t = true) (hme : meO rs t 32 = some (j, r))
    (k : ∀ w' HG AG, Lx F w0 w' (procsL { g with HG := HG, AG := AG } (κ.take t).2.2 q ++ R) → K (.tuple #[it (if (κ.take t).1 = 0 then (κ.take t).2.1 else 0), it (κ.take t).1]) w') :
    CallK Tryz.prog 16 #[pt q.pb 0, .agg #[it t, it d]] w K := by
  apply Ret.call
  apply F16_ok
  unfold F16
  refine sBox h (fun w1 b3 h => ?_)
  refine sLdN h (i := 0) rfl rfl ?_
  have h := toFront (A := [.blk b3 [it t, it d]]) (B := procsL g κ q) (C := R) h
  refine pread_spec h pw hm (fun hd => by rw [hr] at hd; cases hd) (fun _ j' r' hme' w2 p HG h => ?_) (fun _ hn => by rw [hme] at hn; cases hn)
  refine sExt30 (sExt31 (sExt2 ?_))
  refine sAlloc zc77z h (fun w3 b7 h => ?_)
  refine sStN h (i := 0) rfl rfl (by simp [zrec, recC]) (by simpa using recC_one j' r') (fun w4 h => ?_)
  have h : Lx F w0 w4 (procsL { g with HG := HG } κ q ++ ([.blk b3 [it t, it d]] ++ R)) := dropHead (A := [_, _]) h
  refine rNe (rBool ?_)
  rw [if_neg (by decide)]
  refine ⟨fun W => Cs W q.pb (procsC g q) ∧ Cs W b3 [it t, it d], ⟨h.drew.get (i := 1) rfl, h.drew.get (i := 3) rfl⟩, ?_⟩
  refine rNil <| rFA0 <| rLdI (fun W hW => hW.1) (v := pt g.kb 0) rfl ?_
  refine rFA0 <| rLdI (fun W hW => hW.2) (v := it t) rfl ?_
  refine build60_25 ?_
  have told : ∀ (b9 : Nat) (n : Int) (W : World), Lx F w0 W (.blk b9 (toldC { toldZ with n := n }) :: (procsL { g with HG := HG } κ q ++ ([.blk b3 [it t, it d]] ++ R))) → True := fun _ _ _ _ => trivial
  have tn : toldV (if (κ.take t).1 = 0 then { toldZ with n := (κ.take t).2.1 } else toldZ) = toldV { toldZ with n := if (κ.take t).1 = 0 then (κ.take t).2.1 else 0 } := by
    split <;> rfl
  refine ⟨?_, ?_, trivial⟩
  · refine kdo_take (g := { g with HG := HG }) h.drew (i := 0) rfl pw.wf hm (fun hd => by rw [hr] at hd; cases hd) (fun _ w5 AG h => ?_)
    refine ⟨⟨h.get (i := 1) rfl, h.get (i := 3) rfl⟩, rExt0 (rExt1 ⟨?_, trivial⟩)⟩
    rw [tn]
    refine sAlloc zc52' h (fun w6 b9 h => ⟨⟨h.get (i := 2) rfl, h.get (i := 4) rfl⟩, ?_, trivial⟩)
    refine sStN h (i := 0) rfl rfl (by simp [toldC]) (told_one _) (fun w7 h => ?_)
    refine rFA0 (sLd h (i := 0) rfl (v := it (if (κ.take t).1 = 0 then (κ.take t).2.1 else 0)) rfl ?_)
    refine k w7 HG AG ?_
    have h' : Lx F w0 w7 ([.blk b9 (toldC { toldZ with n := if (κ.take t).1 = 0 then (κ.take t).2.1 else 0 })] ++ (procsL { g with HG := HG, AG := AG } (κ.take t).2.2 q ++ ([.blk b3 [it t, it d]] ++ R))) := h
    exact dropHead (A := [_]) (toFront (dropHead h'))
  · refine sAlloc zc52' h.drew (fun w5 b9 h => ⟨⟨h.get (i := 2) rfl, h.get (i := 4) rfl⟩, ?_, trivial⟩)
    refine kdo_take (g := { g with HG := HG }) h (i := 1) rfl pw.wf hm (fun hd => by rw [hr] at hd; cases hd) (fun _ w6 AG h => ?_)
    refine ⟨⟨h.get (i := 2) rfl, h.get (i := 4) rfl⟩, rExt0 (rExt1 ⟨?_, trivial⟩)⟩
    rw [tn]
    refine sStN h (i := 0) rfl rfl (by simp [toldC]) (told_one _) (fun w7 h => ?_)
    refine rFA0 (sLd h (i := 0) rfl (v := it (if (κ.take t).1 = 0 then (κ.take t).2.1 else 0)) rfl ?_)
    refine k w7 HG AG ?_
    have h' : Lx F w0 w7 ([.blk b9 (toldC { toldZ with n := if (κ.take t).1 = 0 then (κ.take t).2.1 else 0 })] ++ (procsL { g with HG := HG, AG := AG } (κ.take t).2.2 q ++ ([.blk b3 [it t, it d]] ++ R))) := h
    exact dropHead (A := [_]) (toFront (dropHead h'))

end

end Go.Proofs.YtdkklhnleppfcaaGreat

/-
  The engine, part Y4: the executor's memory is opened: what it tells becomes assertions of a walk. Own work; generic in the program.
-/
set_option linter.unusedVariables false
set_option linter.unusedSimpArgs false
set_option maxRecDepth 20000
namespace Go.X
open Go Go.V Go.RowKit

def rv (m : Ren) : Value → Value
  | .pointer (some ⟨b, o, none⟩) => match m b with
    | some a => .pointer (some ⟨a.blk, a.off + o, none⟩)
    | none => .pointer none
  | .slice (some ⟨b, o, none⟩) n k => match m b with
    | some a => .slice (some ⟨a.blk, a.off + o, none⟩) n (capOf a k)
    | none => .pointer none
  | .map (some b) => match m b with
    | some a => .map (some a.blk)
    | none => .pointer none
  | x => x

def flatV : Value → Bool
  | .bool _ => true
  | .int _ _ => true
  | .string _ => true
  | .pointer none => true
  | .pointer (some ⟨_, _, none⟩) => true
  | .slice none 0 0 => true
  | .slice (some ⟨_, _, none⟩) _ _ => true
  | .map _ => true
  | _ => false

theorem rv_ok {m : Ren} {x y : Value} (h : VR m x y) (hf : flatV x = true) : y = rv m x := by
  cases h with
  | bool b => rfl
  | int k n => rfl
  | str s => rfl
  | pnil => rfl
  | snil => rfl
  | mnil => rfl
  | ptr h => simp [rv, h]
  | sl h => simp [rv, h]
  | map h => simp [rv, h]
  | fnil => simp [flatV] at hf
  | inil => simp [flatV] at hf
  | iface h => simp [flatV] at hf
  | fn h1 h2 => simp [flatV] at hf
  | yld h => simp [flatV] at hf
  | agg h => simp [flatV] at hf
  | tup h => simp [flatV] at hf
  | edge h => simp [flatV] at hf

inductive Tell where
  | blk (b es : Nat) (cs : List Value) (ex : Bool)
  | mp (b : Nat) (ks : List (Int × Value))
def Tell.name : Tell → Nat
  | .blk b _ _ _ => b
  | .mp b _ => b

noncomputable def toldB (s : St) : Tell → Bool
  | .blk b es cs ex => match s.heap.get b with
    | some (.cells pl es' cs') => pl.plain && (pl.z && (Nat.beq es' es && (veqL 100000 cs cs' && (cs.all flatV && (!ex || pl.ex)))))
    | _ => false
  | .mp b ks => match s.heap.get b with
    | some (.mapI kd ks' cl none) => kdEq kd .i64 && (ksEq ks ks' && ks.all fun p => flatV p.2)
    | _ => false

def namesB : List Nat → Bool
  | [] => true
  | a :: r => (r.all fun b => !(Nat.beq a b)) && namesB r
theorem namesB_ok : ∀ {l : List Nat}, namesB l = true → l.Nodup
  | [], _ => List.nodup_nil
  | a :: r, h => by
    unfold namesB at h
    obtain ⟨h1, h2⟩ := Bool.and_eq_true_iff.1 h
    refine List.nodup_cons.2 ⟨fun hm => ?_, namesB_ok h2⟩
    have := List.all_eq_true.1 h1 a hm
    simp [Nat.beq_refl] at this

def Tell.as' (m : Ren) (ad : Nat → Nat) (rest : Nat → List Value) : Tell → As
  | .blk b _ cs _ => .blk (ad b) (cs.map (rv m) ++ rest b)
  | .mp b ks => .mi (ad b) ks.length fun k => (getI k ks).map (rv m)

theorem gI_mem {n : Int} {v : Value} : ∀ {l : List (Int × Value)}, (l.map (·.1)).Nodup → (getI n l = some v ↔ (n, v) ∈ l)
  | [], _ => by simp [getI]
  | (k, u) :: r, h => by
    simp only [List.map_cons, List.nodup_cons] at h
    have ih := gI_mem (n := n) (v := v) h.2
    unfold getI
    by_cases e : n = k
    · subst e
      rw [if_pos rfl]
      constructor
      · intro h2; cases h2; exact .head _
      · intro h2
        rcases List.mem_cons.1 h2 with h2 | h2
        · cases h2; rfl
        · exact absurd (List.mem_map.2 ⟨_, h2, rfl⟩) h.1
    · rw [if_neg e, ih]
      constructor
      · exact fun h2 => .tail _ h2
      · intro h2
        rcases List.mem_cons.1 h2 with h2 | h2
        · cases h2; exact absurd rfl e
        · exact h2

theorem gI_perm {l l' : List (Int × Value)} (hp : l.Perm l') (h : (l'.map (·.1)).Nodup) (n : Int) : getI n l = getI n l' := by
  have h1 : (l.map (·.1)).Nodup := (hp.map _).nodup_iff.2 h
  cases e : getI n l' with
  | some v => exact (gI_mem h1).2 (hp.mem_iff.2 ((gI_mem h).1 e))
  | none =>
    cases e2 : getI n l with
    | none => rfl
    | some v =>
      have := (gI_mem h).2 (hp.mem_iff.1 ((gI_mem h1).1 e2))
      rw [e] at this; cases this

theorem krs_get {m : Ren} {n : Int} : ∀ {r s : List (Int × Value)}, KRs m r s → (r.all fun p => flatV p.2) = true → getI n s = (getI n r).map (rv m)
  | _, _, .nil, _ => rfl
  | _, _, .cons (n := k) (x := x) h hs, hf => by
    simp only [List.all_cons, Bool.and_eq_true] at hf
    unfold getI
    split
    · rw [Option.map_some, ← rv_ok h hf.1]
    · exact krs_get hs hf.2
theorem krs_len {m : Ren} : ∀ {r s : List (Int × Value)}, KRs m r s → r.length = s.length
  | _, _, .nil => rfl
  | _, _, .cons _ hs => by simp [krs_len hs]

variable {P : Program} {N : Nat} {F : Nat → Prop} {w0 w w' : World} {L : List As}

theorem Lx.split (h : Lx F w0 w L) {i : Nat} {X : As} (hi : L[i]? = some X) {A : List As} (hA : ∀ a ∈ A, a.holds w) (hf : ∀ a ∈ A, ∀ k, a.foot k → X.foot k) (hd : Go.V.Apart A) : Lx F w0 w (A ++ L.set i .emp) := by
  have h0 : Lx F w0 w (L.set i .emp) := h.step (a' := .emp) hi (Fr.refl _ w) trivial (fun k hk => hk.elim)
  have hm := List.mem_of_getElem? hi
  refine ⟨h.fr, ?_, ?_, ?_⟩
  · intro a ha
    rcases List.mem_append.1 ha with ha | ha
    · exact hA a ha
    · exact h0.ok a ha
  · intro a ha k hk
    rcases List.mem_append.1 ha with ha | ha
    · exact h.mine _ hm k (hf a ha k hk)
    · exact h0.mine a ha k hk
  · refine List.pairwise_append.2 ⟨hd, h0.dj, fun a ha b hb k hk hk2 => ?_⟩
    rcases mem_set_cases hb with rfl | ⟨j, hn, hj⟩
    · exact hk2
    · exact pair_other h.dj hi hj (fun e => hn e.symm) k (hf a ha k hk) hk2

theorem objR_cells {m : Ren} {a : At} {o : Obj} {pl : Pl} {es : Nat} {cs : List Value} (h : ObjR m a o (.cells pl es cs)) : ∃ c T fr, o = .cells c T fr ∧ (∀ (i : Nat) v, cs[i]? = some v → ∃ v', c[a.off + i]? = some v' ∧ VR m v v') ∧ a.off + cs.length + a.extra * es ≤ c.size ∧ (fr.1 = fr.2 ∨ c.size ≤ fr.1) ∧ PlOK pl T fr a.off c.size cs.length := by
  unfold ObjR at h
  split at h <;> first
    | (rename_i c T fr pl' es' cs' e; cases e; exact ⟨c, T, fr, rfl, h⟩)
    | (rename_i e; cases e; done)
    | exact h.elim
theorem objR_map {m : Ren} {a : At} {o : Obj} {kd : IntKind} {ks : List (Int × Value)} {cl : Nat} {la : Option (Int × Nat)} (h : ObjR m a o (.mapI kd ks cl la)) : ∃ es c, o = .map es c ∧ ∃ ks' kp, MapI kd es c ks' ∧ kp.Perm ks' ∧ KRs m ks kp := by
  unfold ObjR at h
  split at h <;> first
    | (rename_i es c kd' ks' cl' la' e; cases e; exact ⟨es, c, rfl, h.1⟩)
    | (rename_i e; cases e; done)
    | exact h.elim
theorem names_inj : ∀ {ts : List Tell} {t t' : Tell}, (ts.map Tell.name).Nodup → t ∈ ts → t' ∈ ts → t.name = t'.name → t = t'
  | [], _, _, _, h, _, _ => by simp at h
  | a :: r, t, t', hn, h1, h2, e => by
    simp only [List.map_cons, List.nodup_cons] at hn
    rcases List.mem_cons.1 h1 with g1 | g1 <;> rcases List.mem_cons.1 h2 with g2 | g2
    · rw [g1, g2]
    · exact absurd (List.mem_map.2 ⟨t', g2, by rw [← e, g1]⟩) hn.1
    · exact absurd (List.mem_map.2 ⟨t, g1, by rw [e, g2]⟩) hn.1
    · exact names_inj hn.2 g1 g2 e

theorem Lx.tells {m : Ren} {s : St} (ts : List Tell) (ht : ts.all (toldB s) = true) (hn : namesB (ts.map Tell.name) = true) (h : Lx F w0 w L) {i : Nat} (hi : L[i]? = some (As.st N m s)) :
    ∃ (ad ex : Nat → Nat) (rest : Nat → List Value), (∀ t ∈ ts, ∃ off e, m t.name = some ⟨ad t.name, off, e⟩) ∧
      (∀ b es cs x, Tell.blk b es cs x ∈ ts → m b = some ⟨ad b, 0, ex b⟩ ∧ ex b * es ≤ (rest b).length ∧ (x = true → rest b = [])) ∧
      Lx F w0 w (ts.map (Tell.as' m ad rest) ++ L.set i .emp) := by
  classical
  obtain ⟨hs, hg⟩ : SimO m s w ∧ Glob N m := h.get hi
  have key : ∀ t ∈ ts, ∃ (a : At) (rest : List Value), m t.name = some a ∧ owned m s a.blk ∧ match t with
      | .blk b es cs x => a.off = 0 ∧ a.extra * es ≤ rest.length ∧ (x = true → rest = []) ∧ Cs w a.blk (cs.map (rv m) ++ rest)
      | .mp b ks => MapF w a.blk ks.length (fun k => (getI k ks).map (rv m)) := by
    intro t hmem
    have h1 := List.all_eq_true.1 ht t hmem
    cases t with
    | blk b es cs x =>
      unfold toldB at h1
      simp only at h1
      split at h1 <;> try (cases h1; done)
      rename_i pl es' cs' hb
      simp only [Bool.and_eq_true, Bool.or_eq_true, Bool.not_eq_true'] at h1
      obtain ⟨h2, h3, h4, h5, h6, h7⟩ := h1
      have e1 := veqL_ok h5
      subst e1
      have e2 := Nat.eq_of_beq_eq_true h4
      subst e2
      obtain ⟨a, o, ha, ho, hr⟩ := hs.obj b _ hb (by simp)
      obtain ⟨c, T, fr, rfl, r1, r2, r3, r4⟩ := objR_cells hr
      · skip
        have hfr := r4.p h2
        have hoff := r4.z h3
        have hown : owned m s a.blk := ⟨b, _, a, hb, by simp, ha, rfl⟩
        rw [hoff] at r1 r2
        simp only [Nat.zero_add] at r1 r2
        have hpre : c.toList.take cs.length = cs.map (rv m) := by
          apply List.ext_getElem?
          intro j
          rw [List.getElem?_take, List.getElem?_map]
          split
          · rename_i hj
            obtain ⟨v', h8, h9⟩ := r1 j cs[j] (List.getElem?_eq_getElem hj)
            have hfl : flatV cs[j] = true := List.all_eq_true.1 h6 _ (List.getElem_mem hj)
            rw [List.getElem?_eq_getElem hj, Option.map_some, ← rv_ok h9 hfl]
            rw [Array.getElem?_toList]; exact h8
          · rename_i hj
            rw [List.getElem?_eq_none (by omega)]; rfl
        refine ⟨a, c.toList.drop cs.length, ha, hown, hoff, ?_, ?_, T, ?_⟩
        · rw [List.length_drop, Array.length_toList]; omega
        · intro hx
          have hx2 := r4.x (h7.resolve_left (by rw [hx]; simp))
          refine List.drop_eq_nil_of_le ?_
          rw [Array.length_toList, hx2, hoff]; omega
        · rw [← hpre, List.take_append_drop, ho, hfr]
    | mp b ks =>
      unfold toldB at h1
      simp only at h1
      split at h1 <;> try (cases h1; done)
      rename_i kd ks' cl hb
      simp only [Bool.and_eq_true] at h1
      obtain ⟨h2, h3, h4⟩ := h1
      have e1 := ksEq_ok h3
      subst e1
      have e2 : kd = .i64 := of_decide_eq_true h2
      subst e2
      obtain ⟨a, o, ha, ho, hr⟩ := hs.obj b _ hb (by simp)
      obtain ⟨es, c, rfl, k1, kp, r1, r2, r3⟩ := objR_map hr
      · refine ⟨a, [], ha, ⟨b, _, a, hb, by simp, ha, rfl⟩, es, c, k1, ho, r1, ?_, fun k => ?_⟩
        · rw [krs_len r3, r2.length_eq]
        · rw [← gI_perm r2 r1.keys, krs_get r3 h4]
  obtain ⟨A, R, hA⟩ : ∃ (A : Tell → At) (R : Tell → List Value), ∀ t ∈ ts, m t.name = some (A t) ∧ owned m s (A t).blk ∧ match t with
      | .blk b es cs x => (A t).off = 0 ∧ (A t).extra * es ≤ (R t).length ∧ (x = true → R t = []) ∧ Cs w (A t).blk (cs.map (rv m) ++ R t)
      | .mp b ks => MapF w (A t).blk ks.length (fun k => (getI k ks).map (rv m)) := by
    refine ⟨fun t => if h : t ∈ ts then (key t h).choose else ⟨0, 0, 0⟩, fun t => if h : t ∈ ts then (key t h).choose_spec.choose else [], fun t hm => ?_⟩
    simp only [dif_pos hm]
    exact (key t hm).choose_spec.choose_spec
  have nameInj : ∀ t ∈ ts, ∀ t' ∈ ts, t.name = t'.name → t = t' := by
    intro t h1 t' h2 e
    have hnd := namesB_ok hn
    exact names_inj hnd h1 h2 e
  let ad : Nat → Nat := fun b => ((m b).map (·.blk)).getD 0
  let exx : Nat → Nat := fun b => ((m b).map (·.extra)).getD 0
  let rest : Nat → List Value := fun b => match ts.find? (fun t => Nat.beq t.name b) with
    | some t => R t
    | none => []
  have hrest : ∀ t ∈ ts, rest t.name = R t := by
    intro t hmem
    show (match ts.find? (fun t' => Nat.beq t'.name t.name) with | some t => R t | none => []) = R t
    cases hfd : ts.find? (fun t' => Nat.beq t'.name t.name) with
    | none =>
      have := List.find?_eq_none.1 hfd t hmem
      simp [Nat.beq_refl] at this
    | some t' =>
      have h1 := List.find?_some hfd
      have h2 := List.mem_of_find?_eq_some hfd
      have := nameInj t' h2 t hmem (Nat.eq_of_beq_eq_true h1)
      rw [this]
  have had : ∀ t ∈ ts, ad t.name = (A t).blk := by
    intro t hmem
    show ((m t.name).map (·.blk)).getD 0 = _
    rw [(hA t hmem).1]; rfl
  refine ⟨ad, exx, rest, fun t hmem => ⟨(A t).off, (A t).extra, ?_⟩, fun b es cs x hmem => ?_, ?_⟩
  · rw [had t hmem, (hA t hmem).1]
  · have h1 := hA _ hmem
    have h2 := had _ hmem
    have h3 := hrest _ hmem
    simp only [Tell.name] at h1 h2 h3
    obtain ⟨h4, _, h5, h6, h7, _⟩ := h1
    have he : exx b = (A (.blk b es cs x)).extra := by
      show ((m b).map (·.extra)).getD 0 = _
      rw [h4]; rfl
    refine ⟨?_, ?_, ?_⟩
    · rw [h4, h2, he]
      congr 1
      cases hA' : A (.blk b es cs x)
      rw [hA'] at h5
      simp only at h5
      rw [h5]
    · rw [he, h3]; exact h6
    · rw [h3]; exact h7
  · refine Lx.split h hi ?_ ?_ ?_
    · intro a ha
      obtain ⟨t, hmem, rfl⟩ := List.mem_map.1 ha
      have h1 := hA t hmem
      have h2 := had t hmem
      have h3 := hrest t hmem
      cases t with
      | blk b es cs x =>
        simp only [Tell.name] at h1 h2 h3
        obtain ⟨_, _, _, _, _, h8⟩ := h1
        show Cs w (ad b) (cs.map (rv m) ++ rest b)
        rw [h2, h3]; exact h8
      | mp b ks =>
        simp only [Tell.name] at h1 h2
        show MapF w (ad b) _ _
        rw [h2]; exact h1.2.2
    · intro a ha k hk
      obtain ⟨t, hmem, rfl⟩ := List.mem_map.1 ha
      have h1 := (hA t hmem).2.1
      have h2 := had t hmem
      have hk' : k = ad t.name := by
        cases t with
        | blk b es cs x => exact hk
        | mp b ks => exact hk
      rw [hk', h2]; exact h1
    · unfold Go.V.Apart
      rw [List.pairwise_map]
      have hnd := namesB_ok hn
      rw [List.nodup_iff_pairwise_ne, List.pairwise_map] at hnd
      refine List.Pairwise.imp_of_mem (fun {t t'} h1 h2 hne k hk hk2 => ?_) hnd
      have e1 : k = ad t.name := by cases t <;> exact hk
      have e2 : k = ad t'.name := by cases t' <;> exact hk2
      obtain ⟨b, bk, a, o1, o2, o3, o4⟩ := (hA t h1).2.1
      obtain ⟨b', bk', a', o1', o2', o3', o4'⟩ := (hA t' h2).2.1
      have f1 : m t.name = some (A t) := (hA t h1).1
      have f2 : m t'.name = some (A t') := (hA t' h2).1
      have told : ∀ t ∈ ts, ∃ bk, s.heap.get t.name = some bk ∧ bk ≠ .dead := by
        intro t hmem
        have h1 := List.all_eq_true.1 ht t hmem
        cases t with
        | blk b es cs x =>
          unfold toldB at h1
          simp only at h1
          split at h1 <;> try (cases h1; done)
          rename_i pl es' cs' hb
          exact ⟨_, hb, by simp⟩
        | mp b ks =>
          unfold toldB at h1
          simp only at h1
          split at h1 <;> try (cases h1; done)
          rename_i kd ks' cl hb
          exact ⟨_, hb, by simp⟩
      obtain ⟨k1, g1, g2⟩ := told t h1
      obtain ⟨k2, g3, g4⟩ := told t' h2
      refine hne (hs.inj _ _ k1 k2 _ _ g1 g2 g3 g4 f1 f2 ?_)
      rw [← had t h1, ← had t' h2, ← e1, ← e2]

end Go.X

/-
  Assertions are gathered: blocks become objects, things, the kernel. Own work.
-/
set_option linter.unusedVariables false
set_option linter.unusedSimpArgs false
set_option maxRecDepth 100000
namespace Go.Proofs.YtdkklhnleppfcaaGreat
open Go Go.V Go.X Go.RowKit

section
variable {F : Nat → Prop} {w0 w : World} {M B L0 : List As}

theorem rotA {A : List As} {X : As} (h : Lx F w0 w ((A ++ B) ++ L0)) (hX : X.holds w) (hf : ∀ k, X.foot k → ∃ a ∈ A, a.foot k) : Lx F w0 w ((B ++ [X]) ++ L0) := by
  rw [List.append_assoc] at h
  obtain ⟨d1, d2, d3⟩ := List.pairwise_append.1 h.dj
  have hB : ∀ a, a ∈ B ++ L0 → a ∈ A ++ (B ++ L0) := fun a ha => List.mem_append_right _ ha
  refine ⟨h.fr, ?_, ?_, ?_⟩
  · intro a ha
    rcases List.mem_append.1 ha with ha | ha
    · rcases List.mem_append.1 ha with ha | ha
      · exact h.ok a (hB a (List.mem_append_left _ ha))
      · rw [List.mem_singleton.1 ha]; exact hX
    · exact h.ok a (hB a (List.mem_append_right _ ha))
  · intro a ha k hk
    rcases List.mem_append.1 ha with ha | ha
    · rcases List.mem_append.1 ha with ha | ha
      · exact h.mine a (hB a (List.mem_append_left _ ha)) k hk
      · rw [List.mem_singleton.1 ha] at hk
        obtain ⟨b, hb, hk⟩ := hf k hk
        exact h.mine b (List.mem_append_left _ hb) k hk
    · exact h.mine a (hB a (List.mem_append_right _ ha)) k hk
  · obtain ⟨e1, e2, e3⟩ := List.pairwise_append.1 d2
    refine List.pairwise_append.2 ⟨List.pairwise_append.2 ⟨e1, List.pairwise_singleton _ _, fun a ha b hb k hk hk2 => ?_⟩, e2, fun a ha b hb k hk hk2 => ?_⟩
    · rw [List.mem_singleton.1 hb] at hk2
      obtain ⟨c, hc, hk2⟩ := hf k hk2
      exact d3 c hc a (List.mem_append_left _ ha) k hk2 hk
    · rcases List.mem_append.1 ha with ha | ha
      · exact e3 a ha b hb k hk hk2
      · rw [List.mem_singleton.1 ha] at hk
        obtain ⟨c, hc, hk⟩ := hf k hk
        exact d3 c hc b (List.mem_append_right _ hb) k hk hk2

theorem rotAll {A : List As} (h : Lx F w0 w ((A ++ B) ++ L0)) : Lx F w0 w ((B ++ [As.all A]) ++ L0) := by
  refine rotA h ⟨fun a ha => h.ok a (List.mem_append_left _ (List.mem_append_left _ ha)), ?_⟩ (fun k hk => hk)
  have := h.dj
  rw [List.append_assoc] at this
  exact (List.pairwise_append.1 this).1

def lookF {α : Type} : List (Int × α) → Int → Option α
  | [], _ => none
  | (k, v) :: r, n => if n = k then some v else lookF r n
theorem lookF_mem {α : Type} {n : Int} {a : α} : ∀ {l : List (Int × α)}, lookF l n = some a → (n, a) ∈ l
  | [], h => by cases h
  | (k, v) :: r, h => by
    unfold lookF at h
    split at h
    · rename_i e; cases h; rw [e]; exact .head _
    · exact .tail _ (lookF_mem h)

theorem rotFam {α : Type} {A : Int → α → As} (obs : List (Int × α)) (h : Lx F w0 w ((obs.map (fun p => A p.1 p.2) ++ B) ++ L0)) : Lx F w0 w ((B ++ [As.fam (lookF obs) A]) ++ L0) := by
  have hd := h.dj
  rw [List.append_assoc] at hd
  have hd := (List.pairwise_append.1 hd).1
  refine rotA h ⟨fun n a hn => h.ok _ (List.mem_append_left _ (List.mem_append_left _ (List.mem_map.2 ⟨(n, a), lookF_mem hn, rfl⟩))), ?_⟩ ?_
  · intro n m a b hne hn hm k hk hk2
    rw [List.pairwise_map] at hd
    obtain ⟨i, hi⟩ := List.mem_iff_getElem?.1 (lookF_mem hn)
    obtain ⟨j, hj⟩ := List.mem_iff_getElem?.1 (lookF_mem hm)
    rw [List.pairwise_iff_getElem] at hd
    obtain ⟨hi1, ei⟩ := List.getElem?_eq_some_iff.1 hi
    obtain ⟨hj1, ej⟩ := List.getElem?_eq_some_iff.1 hj
    rcases Nat.lt_trichotomy i j with hij | hij | hij
    · have := hd i j hi1 hj1 hij k
      rw [ei, ej] at this
      exact this hk hk2
    · subst hij
      rw [ei] at ej
      cases ej
      exact hne rfl
    · have := hd j i hj1 hi1 hij k
      rw [ei, ej] at this
      exact this hk2 hk
  · rintro k ⟨n, a, hn, hk⟩
    exact ⟨_, List.mem_map.2 ⟨(n, a), lookF_mem hn, rfl⟩, hk⟩

theorem rotOb {n : Int} {a la c : Nat} {o : ObP} {r : List Value} (hc1 : o.list.length ≤ c) (hc2 : c ≤ o.list.length + r.length) (h : Lx F w0 w ((.blk a (obC n ⟨a, .slice (some ⟨la, 0, none⟩) o.list.length c, some la⟩ o) :: .blk la (o.list.map it ++ r) :: B) ++ L0)) :
    Lx F w0 w ((B ++ [obAs n ⟨a, .slice (some ⟨la, 0, none⟩) o.list.length c, some la⟩ o]) ++ L0) := by
  have hd := List.pairwise_cons.1 h.dj
  refine rotA (A := [.blk a (obC n ⟨a, .slice (some ⟨la, 0, none⟩) o.list.length c, some la⟩ o), .blk la (o.list.map it ++ r)]) h ⟨?_, ?_⟩ ?_
  · intro x hx
    simp only [List.mem_cons, List.not_mem_nil, or_false] at hx
    rcases hx with rfl | rfl
    · exact h.get (i := 0) rfl
    · have hcs : Cs w la (o.list.map it ++ r) := h.get (i := 1) rfl
      exact ⟨by simp, 0, c, [], r, rfl, by simpa using hcs, hc1, by omega, .inr rfl, Nat.le_refl _⟩
  · refine List.pairwise_cons.2 ⟨?_, List.pairwise_singleton _ _⟩
    intro x hx k hk hk2
    rw [List.mem_singleton.1 hx] at hk2
    have hk2 : some la = some k := hk2
    cases hk2
    exact hd.1 (.blk la (o.list.map it ++ r)) (.head _) la hk rfl
  · rintro k ⟨x, hx, hk⟩
    simp only [List.mem_cons, List.not_mem_nil, or_false] at hx
    rcases hx with rfl | rfl
    · exact ⟨_, .head _, hk⟩
    · have hk : some la = some k := hk
      cases hk
      exact ⟨_, .tail _ (.head _), rfl⟩

theorem rotOb0 {n : Int} {a : Nat} {o : ObP} (hl : o.list = []) (h : Lx F w0 w ((.blk a (obC n ⟨a, nilS, none⟩ o) :: B) ++ L0)) : Lx F w0 w ((B ++ [obAs n ⟨a, nilS, none⟩ o]) ++ L0) := by
  refine rotA (A := [.blk a (obC n ⟨a, nilS, none⟩ o)]) h ⟨?_, ?_⟩ ?_
  · intro x hx
    simp only [List.mem_cons, List.not_mem_nil, or_false] at hx
    rcases hx with rfl | rfl
    · exact h.get (i := 0) rfl
    · rw [hl]; exact RowW.nil 1 w
  · refine List.pairwise_cons.2 ⟨?_, List.pairwise_singleton _ _⟩
    intro x hx k hk hk2
    rw [List.mem_singleton.1 hx] at hk2
    cases (show none = some k from hk2)
  · rintro k ⟨x, hx, hk⟩
    simp only [List.mem_cons, List.not_mem_nil, or_false] at hx
    rcases hx with rfl | rfl
    · exact ⟨_, .head _, hk⟩
    · cases (show none = some k from hk)

theorem rotTh0 {a : Nat} {gh : Gh} {x : ThP} (hb : x.bytes = none) (h : Lx F w0 w ((.blk a (thC ⟨a, gh⟩ x) :: B) ++ L0)) : Lx F w0 w ((B ++ [thAs ⟨a, gh⟩ x]) ++ L0) := by
  refine rotA (A := [.blk a (thC ⟨a, gh⟩ x)]) h ⟨?_, ?_⟩ ?_
  · intro y hy
    simp only [List.mem_cons, List.not_mem_nil, or_false] at hy
    rcases hy with rfl | rfl
    · exact h.get (i := 0) rfl
    · rw [hb]; trivial
  · refine List.pairwise_cons.2 ⟨?_, List.pairwise_singleton _ _⟩
    intro y hy k hk hk2
    rw [List.mem_singleton.1 hy, hb] at hk2
    exact hk2
  · rintro k ⟨y, hy, hk⟩
    simp only [List.mem_cons, List.not_mem_nil, or_false] at hy
    rcases hy with rfl | rfl
    · exact ⟨_, .head _, hk⟩
    · rw [hb] at hk; exact hk.elim

theorem rotSeg {a b lb ob c1 c2 : Nat} {ps : List Nat} {l : List UInt8} {x : ThP} {r1 r2 : List Value} (hx : x.bytes = some l) (hps : ps.length = (l.length + 63) / 64) (hle : l.length ≤ 4096)
    (h1 : ps.length ≤ c1) (h2 : c1 ≤ ps.length + r1.length) (h3 : ps.length ≤ c2) (h4 : c2 ≤ ps.length + r2.length)
    (h : Lx F w0 w ((.blk a (thC ⟨a, ⟨b, ps, ps.map fun _ => true, some lb, some ob⟩⟩ x) :: .blk b [it l.length, sv lb ps.length c1, sv ob ps.length c2] :: .blk lb (ps.map (pt · 0) ++ r1) :: .blk ob ((ps.map fun _ => true).map Value.bool ++ r2) :: (ps.mapIdx (fun i q => As.blk q (pgc (cont l) i)) ++ B)) ++ L0)) :
    Lx F w0 w ((B ++ [thAs ⟨a, ⟨b, ps, ps.map fun _ => true, some lb, some ob⟩⟩ x]) ++ L0) := by
  have hd1 := List.pairwise_cons.1 h.dj
  have hd2 := List.pairwise_cons.1 hd1.2
  have hd3 := List.pairwise_cons.1 hd2.2
  have hd4 := List.pairwise_cons.1 hd3.2
  have pmem : ∀ (i q : Nat), ps[i]? = some q → As.blk q (pgc (cont l) i) ∈ ps.mapIdx (fun i q => As.blk q (pgc (cont l) i)) := by
    intro i q hq
    refine List.mem_of_getElem? (i := i) ?_
    rw [List.getElem?_mapIdx, hq]; rfl
  have pin : ∀ (i q : Nat), ps[i]? = some q → As.blk q (pgc (cont l) i) ∈ (ps.mapIdx (fun i q => As.blk q (pgc (cont l) i)) ++ B) ++ L0 := fun i q hq => List.mem_append_left _ (List.mem_append_left _ (pmem i q hq))
  have pof : ∀ q ∈ ps, ∃ i, ps[i]? = some q := fun q hq => List.mem_iff_getElem?.1 hq
  have hpd : ∀ (i j q : Nat), ps[i]? = some q → ps[j]? = some q → i = j := by
    intro i j q hi hj
    have hd : List.Pairwise (fun a b : As => ∀ k, a.foot k → ¬ b.foot k) ((ps.mapIdx (fun i q => As.blk q (pgc (cont l) i)) ++ B) ++ L0) := hd4.2
    rw [List.append_assoc] at hd
    have hd := (List.pairwise_append.1 hd).1
    rw [List.pairwise_iff_getElem] at hd
    have li := (List.getElem?_eq_some_iff.1 hi).1
    have lj := (List.getElem?_eq_some_iff.1 hj).1
    rcases Nat.lt_trichotomy i j with e | e | e
    · exfalso
      have := hd i j (by simpa using li) (by simpa using lj) e q
      simp only [List.getElem_mapIdx] at this
      exact this (by show q = ps[i]; exact ((List.getElem?_eq_some_iff.1 hi).2).symm) (by show q = ps[j]; exact ((List.getElem?_eq_some_iff.1 hj).2).symm)
    · exact e
    · exfalso
      have := hd j i (by simpa using lj) (by simpa using li) e q
      simp only [List.getElem_mapIdx] at this
      exact this (by show q = ps[j]; exact ((List.getElem?_eq_some_iff.1 hj).2).symm) (by show q = ps[i]; exact ((List.getElem?_eq_some_iff.1 hi).2).symm)
  have hBy : By w ⟨b, ps, ps.map fun _ => true, some lb, some ob⟩ l.length (cont l) := by
    refine ⟨⟨sv lb ps.length c1, sv ob ps.length c2, h.get (i := 1) rfl, ⟨r1, c1, by simp, h.get (i := 2) rfl, by simpa using h1, by simpa using h2⟩, ⟨r2, c2, by simp, h.get (i := 3) rfl, by simpa using h3, by simpa using h4⟩⟩, ?_, by simp, ?_, ?_, ?_, ?_⟩
    · intro i q hq
      exact h.ok (.blk q (pgc (cont l) i)) (.tail _ (.tail _ (.tail _ (.tail _ (pin i q hq)))))
    · intro k hk
      cases hk
      refine ⟨fun e => ?_, fun e => ?_, fun hm => ?_⟩
      · exact hd2.1 (.blk lb (ps.map (pt · 0) ++ r1)) (.head _) lb e rfl
      · cases e
        exact hd3.1 (.blk lb ((ps.map fun _ => true).map Value.bool ++ r2)) (.head _) lb rfl rfl
      · obtain ⟨i, hi⟩ := pof _ hm
        exact hd3.1 (.blk lb (pgc (cont l) i)) (.tail _ (pin i lb hi)) lb rfl rfl
    · intro k hk
      cases hk
      refine ⟨fun e => ?_, fun hm => ?_⟩
      · exact hd2.1 (.blk ob ((ps.map fun _ => true).map Value.bool ++ r2)) (.tail _ (.head _)) ob e rfl
      · obtain ⟨i, hi⟩ := pof _ hm
        exact hd4.1 (.blk ob (pgc (cont l) i)) (pin i ob hi) ob rfl rfl
    · intro hm
      obtain ⟨i, hi⟩ := pof _ hm
      exact hd2.1 (.blk b (pgc (cont l) i)) (.tail _ (.tail _ (pin i b hi))) b rfl rfl
    · intro i j q _ hi hj
      exact hpd i j q hi hj
  have foot : ∀ k, (Gh.mk b ps (ps.map fun _ => true) (some lb) (some ob)).sees k → k = b ∨ k = lb ∨ k = ob ∨ k ∈ ps := by
    rintro k ((h | h | h | ⟨i, _, h⟩) | h)
    · exact .inl h
    · exact .inr (.inl (by cases h; rfl))
    · exact .inr (.inr (.inl (by cases h; rfl)))
    · exact .inr (.inr (.inr (List.mem_of_getElem? h)))
    · exact .inr (.inr (.inr h))
  refine rotA (A := .blk a (thC ⟨a, ⟨b, ps, ps.map fun _ => true, some lb, some ob⟩⟩ x) :: .blk b [it l.length, sv lb ps.length c1, sv ob ps.length c2] :: .blk lb (ps.map (pt · 0) ++ r1) :: .blk ob ((ps.map fun _ => true).map Value.bool ++ r2) :: ps.mapIdx (fun i q => As.blk q (pgc (cont l) i))) h ⟨?_, ?_⟩ ?_
  · intro y hy
    simp only [List.mem_cons, List.not_mem_nil, or_false] at hy
    rcases hy with rfl | rfl
    · exact h.get (i := 0) rfl
    · rw [hx]; exact ⟨hBy, hps, hle⟩
  · refine List.pairwise_cons.2 ⟨?_, List.pairwise_singleton _ _⟩
    intro y hy k hk hk2
    rw [List.mem_singleton.1 hy, hx] at hk2
    have hk : k = a := hk
    subst hk
    rcases foot k hk2 with e | e | e | e
    · subst e; exact hd1.1 (.blk k [it l.length, sv lb ps.length c1, sv ob ps.length c2]) (.head _) k rfl rfl
    · subst e; exact hd1.1 (.blk k (ps.map (pt · 0) ++ r1)) (.tail _ (.head _)) k rfl rfl
    · subst e; exact hd1.1 (.blk k ((ps.map fun _ => true).map Value.bool ++ r2)) (.tail _ (.tail _ (.head _))) k rfl rfl
    · obtain ⟨i, hi⟩ := pof _ e
      exact hd1.1 (.blk k (pgc (cont l) i)) (.tail _ (.tail _ (.tail _ (pin i k hi)))) k rfl rfl
  · rintro k ⟨y, hy, hk⟩
    simp only [List.mem_cons, List.not_mem_nil, or_false] at hy
    rcases hy with rfl | rfl
    · exact ⟨_, .head _, hk⟩
    · rw [hx] at hk
      rcases foot k hk with e | e | e | e
      · exact ⟨_, .tail _ (.head _), e⟩
      · exact ⟨_, .tail _ (.tail _ (.head _)), e⟩
      · exact ⟨_, .tail _ (.tail _ (.tail _ (.head _))), e⟩
      · obtain ⟨i, hi⟩ := pof _ e
        exact ⟨_, .tail _ (.tail _ (.tail _ (.tail _ (pmem i k hi)))), rfl⟩

end

end Go.Proofs.YtdkklhnleppfcaaGreat

/-
  The kernel is gathered out of what was told. Own work.
-/
set_option linter.unusedVariables false
set_option linter.unusedSimpArgs false
set_option maxRecDepth 100000
namespace Go.Proofs.YtdkklhnleppfcaaGreat
open Go Go.V Go.X Go.RowKit

instance : Inhabited Gh := ⟨⟨0, [], [], none, none⟩⟩

theorem pg_rv (m : Ren) (c : Nat → UInt8) (i : Nat) : (pgc c i).map (rv m) = pgc c i := by
  unfold pgc
  rw [List.map_map]
  rfl

theorem rvI (m : Ren) (n : Int) : rv m (lI n) = it n := rfl
theorem rvK (m : Ren) (k : IntKind) (n : Int) : rv m (.int k n) = .int k n := rfl
theorem rvNS (m : Ren) : rv m lNS = nilS := rfl
theorem rvNP (m : Ren) : rv m lNP = .pointer none := rfl
theorem rvB (m : Ren) (b : Bool) : rv m (.bool b) = .bool b := rfl
theorem rvX (m : Ren) (l : List UInt8) : rv m (lX l) = str l := rfl
theorem rvP {m : Ren} {b a e : Nat} (h : m b = some ⟨a, 0, e⟩) (o : Nat) : rv m (lP b o) = pt a o := by
  show (match m b with | some a => _ | none => _) = _
  rw [h]; simp
theorem rvS {m : Ren} {b a e : Nat} (h : m b = some ⟨a, 0, e⟩) (n k : Nat) : rv m (lS b 0 n k) = .slice (some ⟨a, 0, none⟩) n (capOf ⟨a, 0, e⟩ k) := by
  show (match m b with | some a => _ | none => _) = _
  rw [h]
theorem rvM {m : Ren} {b a e o : Nat} (h : m b = some ⟨a, o, e⟩) : rv m (lM b) = .map (some a) := by
  show (match m b with | some a => _ | none => _) = _
  rw [h]

theorem lookF_none {α : Type} {n : Int} : ∀ {l : List (Int × α)}, lookF l n = none → n ∉ l.map (·.1)
  | [], _ => by simp
  | (k, v) :: r, h => by
    unfold lookF at h
    split at h
    · cases h
    · rename_i e
      simp only [List.map_cons, List.mem_cons, not_or]
      exact ⟨e, lookF_none h⟩

theorem ptrF_eq {α : Type} {m : Ren} {os : List (Int × α)} {ids : List Int} {ks : List (Int × Value)} {at' : Int → Nat} {fx : Int → Option Value} (hids : os.map (·.1) = ids) (hfx : fx = fun n => if n ∈ ids then none else (getI n ks).map (rv m))
    (hc : ∀ n ∈ ids, (getI n ks).map (rv m) = some (pt (at' n) 0)) : (fun k => (getI k ks).map (rv m)) = ptrF (lookF os) at' fx := by
  funext k
  unfold ptrF
  cases hl : lookF os k with
  | none =>
    have := lookF_none hl
    rw [hids] at this
    rw [hfx]
    simp only [if_neg this]
  | some a =>
    have : k ∈ ids := by
      rw [← hids]
      exact List.mem_map.2 ⟨_, lookF_mem hl, rfl⟩
    simp only
    exact hc k this

theorem drawn_eq {m : Ren} : ∀ {ks : List (Int × Value)}, (∀ p ∈ ks, p.2 = .bool true) → ∀ k, (getI k ks).map (rv m) = if (getI k ks).isSome = true then some (.bool true) else none
  | [], _, k => rfl
  | (n, v) :: r, h, k => by
    have hv : v = .bool true := h (n, v) (.head _)
    unfold getI
    split
    · rw [hv]; rfl
    · exact drawn_eq (fun p hp => h p (.tail _ hp)) k

section
variable {F : Nat → Prop} {w0 w : World} {B L0 : List As}

theorem rotMx {b n : Nat} {f f' : Int → Option Value} (e : f = f') (h : Lx F w0 w ((As.mi b n f :: B) ++ L0)) : Lx F w0 w ((B ++ [As.mx b f']) ++ L0) := by
  subst e
  exact rotA (A := [As.mi b n f]) h ⟨n, h.get (i := 0) rfl⟩ (fun k hk => ⟨_, .head _, hk⟩)

theorem rotRooms {rb tkb alb n1 n2 : Nat} {f1 f2 : Int → Option Value} {last : Int} {g : KG} {κ : KP} (h1 : f1 = fun _ => none) (h2 : f2 = fun _ => none) (eg : g.rb = rb ∧ g.tkb = tkb ∧ g.alb = alb) (ek : κ.last = last ∧ (κ.tk = fun _ => none) ∧ κ.al = fun _ => none)
    (h : Lx F w0 w ((.blk rb [it last, .map (some tkb), .map (some alb)] :: As.mi tkb n1 f1 :: As.mi alb n2 f2 :: B) ++ L0)) : Lx F w0 w ((B ++ [As.rooms g κ]) ++ L0) := by
  subst h1 h2
  obtain ⟨rfl, rfl, rfl⟩ := eg
  obtain ⟨rfl, e2, e3⟩ := ek
  have hd1 := List.pairwise_cons.1 h.dj
  have hd2 := List.pairwise_cons.1 hd1.2
  have hm1 : MapF w g.tkb n1 fun _ => none := h.get (i := 1) rfl
  have hm2 : MapF w g.alb n2 fun _ => none := h.get (i := 2) rfl
  have hX : (As.rooms g κ).holds w ∧ ∀ k, (As.rooms g κ).foot k → k = g.rb ∨ k = g.tkb ∨ k = g.alb := by
    unfold As.rooms
    rw [e2, e3]
    refine ⟨⟨?_, ?_⟩, ?_⟩
    · intro a ha
      simp only [List.mem_cons, List.not_mem_nil, or_false] at ha
      rcases ha with rfl | rfl | rfl | rfl
      · exact h.get (i := 0) rfl
      · exact ⟨n1, hm1⟩
      · exact ⟨n2, hm2⟩
      · exact ⟨fun n a hn => (by cases hn), fun n m a b _ hn => (by cases hn)⟩
    · refine List.pairwise_cons.2 ⟨?_, List.pairwise_cons.2 ⟨?_, List.pairwise_cons.2 ⟨?_, List.pairwise_singleton _ _⟩⟩⟩
      · intro b hb k hk hk2
        simp only [List.mem_cons, List.not_mem_nil, or_false] at hb
        rcases hb with rfl | rfl | rfl
        · exact hd1.1 _ (.head _) k hk hk2
        · exact hd1.1 _ (.tail _ (.head _)) k hk hk2
        · obtain ⟨n, a, hn, _⟩ := hk2; cases hn
      · intro b hb k hk hk2
        simp only [List.mem_cons, List.not_mem_nil, or_false] at hb
        rcases hb with rfl | rfl
        · exact hd2.1 _ (.head _) k hk hk2
        · obtain ⟨n, a, hn, _⟩ := hk2; cases hn
      · intro b hb k hk hk2
        rw [List.mem_singleton.1 hb] at hk2
        obtain ⟨n, a, hn, _⟩ := hk2; cases hn
    · rintro k ⟨a, ha, hk⟩
      simp only [List.mem_cons, List.not_mem_nil, or_false] at ha
      rcases ha with rfl | rfl | rfl | rfl
      · exact .inl hk
      · exact .inr (.inl hk)
      · exact .inr (.inr hk)
      · obtain ⟨n, a, hn, _⟩ := hk; cases hn
  refine rotA (A := [.blk g.rb [it κ.last, .map (some g.tkb), .map (some g.alb)], As.mi g.tkb n1 fun _ => none, As.mi g.alb n2 fun _ => none]) h hX.1 fun k hk => ?_
  rcases hX.2 k hk with e | e | e
  · exact ⟨_, .head _, e⟩
  · exact ⟨_, .tail _ (.head _), e⟩
  · exact ⟨_, .tail _ (.tail _ (.head _)), e⟩
end

end Go.Proofs.YtdkklhnleppfcaaGreat

namespace Go.Proofs.YtdkklhnleppfcaaGreat
open Go Go.V Go.X Go.RowKit

def Tr (G G' : List As) : Prop := ∀ (F : Nat → Prop) (w0 w : World) (R : List As), Lx F w0 w (G ++ R) → Lx F w0 w (G' ++ R)

theorem Tr.refl (G : List As) : Tr G G := fun _ _ _ _ h => h
theorem Tr.trans {G G' G'' : List As} (h : Tr G G') (k : Tr G' G'') : Tr G G'' := fun F w0 w R x => k F w0 w R (h F w0 w R x)
theorem Tr.app {A A' B B' : List As} (h : Tr A A') (k : Tr B B') : Tr (A ++ B) (A' ++ B') := by
  intro F w0 w R x
  rw [List.append_assoc] at x
  have y := toFront (h F w0 w _ x)
  have z := toFront (k F w0 w _ y)
  rw [List.append_assoc]; exact z

theorem trOb {n : Int} {a la c : Nat} {o : ObP} {r : List Value} (hc1 : o.list.length ≤ c) (hc2 : c ≤ o.list.length + r.length) : Tr [.blk a (obC n ⟨a, .slice (some ⟨la, 0, none⟩) o.list.length c, some la⟩ o), .blk la (o.list.map it ++ r)] [obAs n ⟨a, .slice (some ⟨la, 0, none⟩) o.list.length c, some la⟩ o] :=
  fun F w0 w R h => rotOb (B := []) hc1 hc2 h
theorem trOb0 {n : Int} {a : Nat} {o : ObP} (hl : o.list = []) : Tr [.blk a (obC n ⟨a, nilS, none⟩ o)] [obAs n ⟨a, nilS, none⟩ o] := fun F w0 w R h => rotOb0 (B := []) hl h
theorem trTh0 {a : Nat} {gh : Gh} {x : ThP} (hb : x.bytes = none) : Tr [.blk a (thC ⟨a, gh⟩ x)] [thAs ⟨a, gh⟩ x] := fun F w0 w R h => rotTh0 (B := []) hb h
def pgL (c : Nat → UInt8) : Nat → List Nat → List As
  | _, [] => []
  | i, q :: r => .blk q (pgc c i) :: pgL c (i + 1) r
theorem pgL_eq (c : Nat → UInt8) : ∀ (ps : List Nat) (i : Nat), pgL c i ps = ps.mapIdx (fun j q => As.blk q (pgc c (i + j)))
  | [], _ => rfl
  | q :: r, i => by
    rw [pgL, pgL_eq c r (i + 1), List.mapIdx_cons]
    congr 1
    congr 1
    funext j q
    rw [Nat.add_assoc, Nat.add_comm 1 j]
theorem trSeg {a b lb ob c1 c2 : Nat} {ps : List Nat} {l : List UInt8} {x : ThP} {r1 r2 : List Value} (hx : x.bytes = some l) (hps : ps.length = (l.length + 63) / 64) (hle : l.length ≤ 4096)
    (h1 : ps.length ≤ c1) (h2 : c1 ≤ ps.length + r1.length) (h3 : ps.length ≤ c2) (h4 : c2 ≤ ps.length + r2.length) :
    Tr ([.blk a (thC ⟨a, ⟨b, ps, ps.map fun _ => true, some lb, some ob⟩⟩ x), .blk b [it l.length, sv lb ps.length c1, sv ob ps.length c2], .blk lb (ps.map (pt · 0) ++ r1), .blk ob ((ps.map fun _ => true).map Value.bool ++ r2)] ++ pgL (cont l) 0 ps)
      [thAs ⟨a, ⟨b, ps, ps.map fun _ => true, some lb, some ob⟩⟩ x] := by
  intro F w0 w R h
  refine rotSeg (B := []) (L0 := R) hx hps hle h1 h2 h3 h4 ?_
  rw [List.append_nil]
  have e := pgL_eq (cont l) ps 0
  simp only [Nat.zero_add] at e
  rw [e] at h
  exact h
theorem trFam {α : Type} {A : Int → α → As} (obs : List (Int × α)) : Tr (obs.map (fun p => A p.1 p.2)) [As.fam (lookF obs) A] := by
  intro F w0 w R h
  refine rotFam (B := []) (L0 := R) obs ?_
  rw [List.append_nil]; exact h
theorem trAll (A : List As) : Tr A [As.all A] := by
  intro F w0 w R h
  refine rotAll (B := []) (L0 := R) ?_
  rw [List.append_nil]; exact h
theorem trMi {b n : Nat} {f f' : Int → Option Value} (e : f = f') : Tr [As.mi b n f] [As.mi b n f'] := by subst e; exact Tr.refl _
theorem trMx {b n : Nat} {f f' : Int → Option Value} (e : f = f') : Tr [As.mi b n f] [As.mx b f'] := fun F w0 w R h => rotMx (B := []) e h
theorem trRooms {rb tkb alb n1 n2 : Nat} {f1 f2 : Int → Option Value} {last : Int} {g : KG} {κ : KP} (h1 : f1 = fun _ => none) (h2 : f2 = fun _ => none) (eg : g.rb = rb ∧ g.tkb = tkb ∧ g.alb = alb) (ek : κ.last = last ∧ (κ.tk = fun _ => none) ∧ κ.al = fun _ => none) :
    Tr [.blk rb [it last, .map (some tkb), .map (some alb)], As.mi tkb n1 f1, As.mi alb n2 f2] [As.rooms g κ] := fun F w0 w R h => rotRooms (B := []) h1 h2 eg ek h

end Go.Proofs.YtdkklhnleppfcaaGreat
