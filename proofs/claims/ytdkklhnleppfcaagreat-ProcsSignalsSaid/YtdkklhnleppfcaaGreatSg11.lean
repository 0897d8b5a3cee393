/-
  THE EXECUTOR, part 16: for regions in whatever order: reads, new blocks, guards; the static order of a region's operations. Own work; generic in the program.
-/
import Derived.Test.YtdkklhnleppfcaaGreatSg10
set_option linter.unusedVariables false
set_option linter.unusedSimpArgs false

set_option linter.unusedVariables false
set_option maxRecDepth 20000
namespace Go.X
open Go Go.V Go.RowKit

structure SimH (m : Ren) (h : Nat → Option Blk) (w : World) : Prop where
  obj : ∀ b k, h b = some k → k ≠ .dead → ∃ a o, m b = some a ∧ w.heap[a.blk]? = some o ∧ ObjR m a o k
  inj : ∀ b b' k k' a a', h b = some k → k ≠ .dead → h b' = some k' → k' ≠ .dead → m b = some a → m b' = some a' → a.blk = a'.blk → b = b'
  lt : ∀ b a, m b = some a → a.blk < w.heap.size
  fr : Fr m.F m.w0 w
  own : ∀ b k a, h b = some k → k ≠ .dead → m b = some a → m.F a.blk ∨ m.w0.heap.size ≤ a.blk
  lpl : ∀ c r, m.lp c = some r → c < w.heap.size

theorem Sim.toH {m : Ren} {st : St} {w : World} (hs : Sim m st w) : SimH m st.heap.get w := ⟨hs.obj, hs.inj, hs.lt, hs.fr, hs.own, hs.lpl⟩

theorem SimH.view {m : Ren} {h : Nat → Option Blk} {w : World} (hH : SimH m h w) {Q : St} (hQ : ∀ b k, Q.heap.get b = some k → k ≠ .dead → h b = some k)
    (hf : ∀ b, Q.next ≤ b → m b = none ∧ Q.heap.get b = none) (hr : ∀ b, m.R b → m b = none ∧ b < Q.next) : Sim m Q w :=
  ⟨fun b k hb hd => hH.obj b k (hQ b k hb hd) hd, fun b b' k k' a a' hb hd hb' hd' => hH.inj b b' k k' a a' (hQ b k hb hd) hd (hQ b' k' hb' hd') hd', hf, hH.lt, hH.fr,
    fun b k a hb hd => hH.own b k a (hQ b k hb hd) hd, hr, hH.lpl⟩

noncomputable def xRd (P : Program) (N : Nat) (st : St) (e : Ev) (op : Op) : Option Value :=
  match op with
  | .load t x => match evX N e x with
    | some a => xLd st (ldk P t) a
    | none => none
  | .lookup t x k ok => match evX N e x, evX N e k with
    | some a, some b => xLook P st t a b ok
    | _, _ => none
  | .binOp op t x y _ => match evX N e x, evX N e y with
    | some a, some b => match tkB P t y with
      | .ptr true => xPtr st op a b
      | _ => none
    | _, _ => none
  | _ => none

theorem xRd_ok {P : Program} {N : Nat} {m : Ren} {st : St} {w : World} {e : Ev} {ρ : Env} (hs : Sim m st w) (he : ER m e ρ) (hg : Glob N m) {op : Op} {v : Value} {K : Value → World → Prop}
    (h : xRd P N st e op = some v) (hk : ∀ v', VR m v v' → K v' w) : opV P op ρ w K := by
  unfold xRd at h
  split at h <;> try (cases h; done)
  · split at h <;> try (cases h; done)
    rename_i a ha
    exact xLd_ok (K := fun v => K v w) hs (evX_ok he hg ha) h hk
  · split at h <;> try (cases h; done)
    rename_i a b ha hb
    exact xLook_ok (K := fun v => K v w) hs (evX_ok he hg ha) (evX_ok he hg hb) h hk
  · rename_i op t x y p
    split at h <;> try (cases h; done)
    rename_i a b ha hb
    split at h <;> try (cases h; done)
    rename_i ht
    show vBinW P t (tkB P t y) op (ev ρ x) (ev ρ y) w K
    rw [ht]
    exact xPtr_ok (K := fun v => K v w) hs (evX_ok he hg ha) (evX_ok he hg hb) h fun hp => hk _ (hp m)

noncomputable def xBinL (P : Program) (ty : TypeId) (t : TK) (op : BinOp) (x y : Value) : Option Value :=
  match t with
  | .ptr true => none
  | .agg => xAggEq P ty op x y
  | .arr _ _ => xAggEq P ty op x y
  | t => xBin t op x y

theorem xBinL_ok {P : Program} {m : Ren} {w : World} {ty : TypeId} {t : TK} {op : BinOp} {x y x' y' v : Value} {K : Value → World → Prop} (hx : VR m x x') (hy : VR m y y') (h : xBinL P ty t op x y = some v) (hk : ∀ v', VR m v v' → K v' w) : vBinW P ty t op x' y' w K := by
  have fin : plainR v → K v w := fun hp => hk _ (hp m)
  unfold xBinL at h
  unfold vBinW
  split at h
  · cases h
  · exact xAggEq_ok (K := fun v => K v w) hx hy h fin
  · exact xAggEq_ok (K := fun v => K v w) hx hy h fin
  · rename_i h1 h2 h3
    cases t with
    | ptr b => cases b
               · exact xBin_ok (K := fun v => K v w) hx hy h fin
               · exact absurd rfl h1
    | agg => exact absurd rfl h2
    | arr n es => exact absurd rfl (h3 _ _)
    | _ => exact xBin_ok (K := fun v => K v w) hx hy h fin

noncomputable def xLt (P : Program) (N : Nat) (e : Ev) (op : Op) : Option Value :=
  match op with
  | .binOp op t x y _ => match evX N e x, evX N e y with
    | some a, some b => xBinL P t (tkB P t y) op a b
    | _, _ => none
  | .convert s d x => match evX N e x, cvk P s d with
    | some a, .pure => xConv (tk P d) a
    | _, _ => none
  | .call { callee := .builtin .len, args := args, argTypes := ts } => match args.toList, ts.toList with
    | [x], [t] => match evX N e x, P.underlying t with
      | some _, some (.map _ _) => none
      | some a, _ => xLen (tk P t) a
      | _, _ => none
    | _, _ => none
  | .call { callee := .builtin .cap, args := args, argTypes := ts } => match args.toList, ts.toList with
    | [x], [t] => match evX N e x with
      | some a => xCap (tk P t) a
      | none => none
    | _, _ => none
  | .call { callee := .builtin .min, args := args, argTypes := _ } => match args.toList with
    | x :: r => match evX N e x, evs N e r with
      | some a, some l => xMin a l
      | _, _ => none
    | _ => none
  | .call { callee := .builtin .max, args := args, argTypes := _ } => match args.toList with
    | x :: r => match evX N e x, evs N e r with
      | some a, some l => xMax a l
      | _, _ => none
    | _ => none
  | op => xPure P N e op

theorem xLt_ok {P : Program} {N : Nat} {m : Ren} {w : World} {e : Ev} {ρ : Env} (he : ER m e ρ) (hg : Glob N m) {op : Op} {v : Value} {K : Value → World → Prop} (h : xLt P N e op = some v) (hk : ∀ v', VR m v v' → K v' w) : opV P op ρ w K := by
  unfold xLt at h
  split at h
  · split at h <;> try (cases h; done)
    rename_i a b ha hb
    exact xBinL_ok (evX_ok he hg ha) (evX_ok he hg hb) h hk
  · rename_i s d x
    split at h <;> try (cases h; done)
    rename_i a ha hc
    show vConvW P (cvk P s d) (tk P d) (ev ρ x) w K
    rw [hc]
    exact xConv_ok (K := fun v => K v w) (evX_ok he hg ha) h fun hp => hk _ (hp m)
  · rename_i args ts
    split at h <;> try (cases h; done)
    rename_i x t ha ht
    split at h <;> try (cases h; done)
    rename_i a h1 hm
    show (match args.toList, ts.toList with
      | [x], [t] => match P.underlying t with
        | some (.map _ _) => vLenM (ev ρ x) w K
        | _ => vLen (tk P t) (ev ρ x) fun v => K v w
      | _, _ => False)
    rw [ha, ht]
    have := xLen_ok (K := fun v => K v w) (evX_ok he hg h1) h fun hp => hk _ (hp m)
    show (match P.underlying t with
      | some (.map _ _) => vLenM (ev ρ x) w K
      | _ => vLen (tk P t) (ev ρ x) fun v => K v w)
    split
    · rename_i hm2
      exact (hm _ _ hm2).elim
    · exact this
  · rename_i args ts
    split at h <;> try (cases h; done)
    rename_i x t ha ht
    split at h <;> try (cases h; done)
    rename_i a h1
    show (match args.toList, ts.toList with
      | [x], [t] => vCap (tk P t) (ev ρ x) fun v => K v w
      | _, _ => False)
    rw [ha, ht]
    exact xCap_ok (K := fun v => K v w) (evX_ok he hg h1) h fun hp => hk _ (hp m)
  · rename_i args ts
    split at h <;> try (cases h; done)
    rename_i x r ha
    split at h <;> try (cases h; done)
    rename_i a l h1 h2
    show (match args.toList with
      | x :: r => vMin (ev ρ x) (r.map (ev ρ)) fun v => K v w
      | _ => False)
    rw [ha]
    exact xMin_ok (K := fun v => K v w) (evX_ok he hg h1) (evs_ok he hg h2) h hk
  · rename_i args ts
    split at h <;> try (cases h; done)
    rename_i x r ha
    split at h <;> try (cases h; done)
    rename_i a l h1 h2
    show (match args.toList with
      | x :: r => vMax (ev ρ x) (r.map (ev ρ)) fun v => K v w
      | _ => False)
    rw [ha]
    exact xMax_ok (K := fun v => K v w) (evX_ok he hg h1) (evs_ok he hg h2) h hk
  · have := xPure_ok (K := fun v => K v w) he hg h hk
    revert this
    cases op <;> intro this <;> first
      | exact this
      | (simp [xPure] at h; done)

noncomputable def xNew (P : Program) (N n : Nat) (e : Ev) (op : Op) : Option (Value × Blk) :=
  match op with
  | .alloc t => match zc P t with
    | some z => if z.toList.all closedV = true then some (.pointer (some ⟨n, 0, none⟩), .cells ⟨true, some t, true, true⟩ 1 z.toList) else none
    | none => none
  | .box t x => match evX N e x with
    | some v => some (.pointer (some ⟨n, 0, none⟩), .cells ⟨true, some t, true, true⟩ 1 v.cells.toList)
    | none => none
  | .buildSlice t len parts => match evps N e parts.toList with
    | some ps => match P.underlying t with
      | some (.slice el) => match P.info? el, zc P el with
        | some i, some z => if len * i.size ≤ 16777216 then if len < far then if z.toList.length = i.size then if z.toList.all closedV = true then
            match xFill (slPlace len i.size) (repZ z.toList len) ps with
            | some cs => some (.slice (some ⟨n, 0, none⟩) len len, .cells ⟨true, some el, true, true⟩ i.size cs)
            | none => none
          else none else none else none else none
        | _, _ => none
      | _ => none
    | none => none
  | .makeSlice t l c => match evX N e l, evX N e c, P.underlying t with
    | some (.int _ l), some (.int _ c), some (.slice el) => match P.info? el, zc P el with
      | some i, some z => if 0 ≤ l then if l ≤ c then if c ≤ 140737488355328 then if c * i.bytes ≤ 140737488355328 then if z.toList.length = i.size then if z.toList.all closedV = true then
          some (.slice (some ⟨n, 0, none⟩) l.toNat c.toNat, .cells ⟨true, some el, true, true⟩ i.size (repZ z.toList c.toNat))
        else none else none else none else none else none else none
      | _, _ => none
    | _, _, _ => none
  | .makeMap t none => match P.underlying t with
    | some (.map kt _) => match P.underlying kt with
      | some (.int kd) => some (.map (some n), .mapI kd [] 0 none)
      | _ => none
    | _ => none
  | _ => none

theorem obj_cells {m : Ren} {w : World} {vs vs' : List Value} (hv : VRs m vs vs') (es : Nat) (T : TypeId) : ObjR m ⟨w.heap.size, 0, 0⟩ (.cells ⟨vs'⟩ T) (.cells ⟨true, some T, true, true⟩ es vs) := by
  unfold ObjR
  refine ⟨fun i v hi => ?_, ?_, .inl rfl, ⟨fun _ => rfl, fun t e => Option.some.inj e, fun _ => rfl, fun _ => by have := hv.length; simp [this]⟩⟩
  · obtain ⟨y, hy, hr⟩ := hv.get i hi
    exact ⟨y, by simpa using hy, hr⟩
  · have := hv.length
    simp [this]

theorem xNew_ok {P : Program} {N n : Nat} {m : Ren} {w : World} {e : Ev} {ρ : Env} (hn : m n = none) (he : ER m e ρ) (hg : Glob N m) {op : Op} {v : Value} {bk : Blk} {K : Value → World → Prop}
    (h : xNew P N n e op = some (v, bk)) (hk : ∀ o v', VR (m.add n ⟨w.heap.size, 0, 0⟩) v v' → ObjR (m.add n ⟨w.heap.size, 0, 0⟩) ⟨w.heap.size, 0, 0⟩ o bk → K v' (w.alloc o)) : opV P op ρ w K := by
  have hle : m.le (m.add n ⟨w.heap.size, 0, 0⟩) := Ren.add_le hn
  have hp : VR (m.add n ⟨w.heap.size, 0, 0⟩) (.pointer (some ⟨n, 0, none⟩)) (.pointer (some ⟨w.heap.size, 0, none⟩)) := ptr_new (Ren.add_same _ _ _)
  unfold xNew at h
  split at h <;> try (cases h; done)
  · rename_i t
    split at h <;> try (cases h; done)
    rename_i z hz
    split at h <;> try (cases h; done)
    rename_i hc
    cases h
    show vAlloc P t w K
    unfold vAlloc
    simp only [hz]
    exact hk _ _ hp (obj_cells (closed_all hc) 1 t)
  · rename_i t x
    split at h <;> try (cases h; done)
    rename_i u hu
    cases h
    exact hk _ _ hp (obj_cells ((evX_ok he hg hu).up hle).cells 1 t)
  · rename_i t len parts
    split at h <;> try (cases h; done)
    rename_i ps hps
    split at h <;> try (cases h; done)
    rename_i el hel
    split at h <;> try (cases h; done)
    rename_i i z hi hz
    split at h <;> try (cases h; done)
    rename_i h1
    split at h <;> try (cases h; done)
    rename_i h2
    split at h <;> try (cases h; done)
    rename_i h3
    split at h <;> try (cases h; done)
    rename_i h4
    split at h <;> try (cases h; done)
    rename_i cs hf
    cases h
    show vBuildSlice P t len _ w K
    unfold vBuildSlice
    simp only [hel, hi, hz]
    refine ⟨by simpa using h1, by simpa using h3, ?_⟩
    refine xFill_ok (evps_ok he hg hps) (VRs.rep (closed_all (m := m) h4) len) hf fun out ho => ?_
    exact hk _ _ (sl_new (Ren.add_same _ _ _) h2) (obj_cells (ho.up hle) i.size el)
  · rename_i t l c
    split at h <;> try (cases h; done)
    rename_i k1 l1 k2 c1 el hl hc hel
    split at h <;> try (cases h; done)
    rename_i i z hi hz
    split at h <;> try (cases h; done)
    rename_i h0
    split at h <;> try (cases h; done)
    rename_i h1
    split at h <;> try (cases h; done)
    rename_i h2
    split at h <;> try (cases h; done)
    rename_i h3
    split at h <;> try (cases h; done)
    rename_i h4
    split at h <;> try (cases h; done)
    rename_i h5
    cases h
    show vMakeSlice P t (ev ρ l) (ev ρ c) w K
    rw [vr_int (evX_ok he hg hl), vr_int (evX_ok he hg hc)]
    unfold vMakeSlice
    simp only [hel, hi, hz]
    exact ⟨h0, h1, h2, h3, by simpa using h4, hk _ _ (sl_new (Ren.add_same _ _ _) (by unfold far; omega)) (obj_cells (VRs.rep (closed_all h5) c1.toNat) i.size el)⟩
  · split at h <;> try (cases h; done)
    split at h <;> try (cases h; done)
    cases h
    exact hk (.map #[] 0) _ (VR.map (Ren.add_same _ _ _)) ⟨⟨[], [], MapI.nil _, List.Perm.refl _, .nil⟩, rfl, fun key bn e => by cases e⟩

def gRun (ds : List (Option Nat)) (g : Option (Nat × Bool)) (e : Ev) : Option Bool :=
  match g with
  | none => some true
  | some (j, b) => match gtmp ds j with
    | none => none
    | some d => match getE e d with
      | some (.bool t) => some (t == b)
      | some (.tuple ⟨[]⟩) => some false
      | _ => none

theorem gRun_ok {m : Ren} {e : Ev} {ρ : Env} (he : ER m e ρ) {ds : List (Option Nat)} {g : Option (Nat × Bool)} {r : Bool} (h : gRun ds g e = some r) {yes no : Prop} (hy : r = true → yes) (hn : r = false → no) :
    ∃ kn, Kn ρ kn ∧ guardV ds g kn ρ (fun _ => yes) (fun _ => no) := by
  unfold gRun at h
  split at h
  · cases h
    exact ⟨[], Kn.nil _, hy rfl⟩
  · rename_i j b
    split at h <;> try (cases h; done)
    rename_i d hd
    split at h <;> try (cases h; done)
    · rename_i t ht
      cases h
      have e1 := vr_bool (he d _ ht)
      refine ⟨[], Kn.nil _, ?_⟩
      unfold guardV
      simp only [hd, lookK]
      cases b
      · simp only
        rw [e1]
        show (if t = true then _ else _)
        cases t
        · exact hy rfl
        · exact hn rfl
      · simp only
        rw [e1]
        show (if t = true then _ else _)
        cases t
        · exact hn rfl
        · exact hy rfl
    · rename_i hu
      cases h
      have e1 : ρ d = undef := by
        have := he d _ hu
        generalize hq : ρ d = q at this
        cases this
        rename_i ys hys
        cases hys
        rfl
      refine ⟨[(d, none)], (Kn.nil _).add (x := none) e1, ?_⟩
      unfold guardV
      have hl : lookK [(d, (none : Option Bool))] d = some none := by simp [lookK, Nat.beq_refl]
      simp only [hd, hl]
      cases b <;> exact hn rfl

end Go.X

/-
  THE EXECUTOR, part 17: a region in whatever order: its operations' static order, its canonical run. Own work; generic in the program.
-/
set_option linter.unusedVariables false
set_option maxRecDepth 20000
namespace Go.X
open Go Go.V Go.RowKit

inductive DK where
  | pure
  | new
  | read
  | ins (j : Nat)
  | fix (gone : List Nat)

structure DS where
  i : Nat
  lk : List Nat
  k : DK

structure DP where
  tbl : List (List Nat)
  steps : List DS

def has (l : List Nat) (i : Nat) : Bool := l.any (Nat.beq i)
theorem has_iff {l : List Nat} {i : Nat} : has l i = true ↔ i ∈ l := by
  unfold has
  rw [List.any_eq_true]
  constructor
  · rintro ⟨x, hx, e⟩
    rw [Nat.eq_of_beq_eq_true e]; exact hx
  · intro h
    exact ⟨i, h, Nat.beq_refl i⟩

def dirs (ops : Array Oper) (i : Nat) : List Nat := match ops[i]? with
  | some o => (o.after.toList.filter fun e => Region.binds .any e).map (·.on)
  | none => []

def dstOf (ops : Array Oper) (i : Nat) : Option Nat := match ops[i]? with
  | some o => o.dst
  | none => none

def tb (tbl : List (List Nat)) (i : Nat) : List Nat := (tbl[i]?).getD []

def tblOK (ops : Array Oper) (tbl : List (List Nat)) : Bool :=
  (List.range ops.size).all fun i => (tb tbl i).all fun p => (dirs ops i).any fun d => Nat.beq p d || (Nat.blt d i && has (tb tbl d) p)

abbrev LF := Nat → Bool

def Closed (ops : Array Oper) (L : LF) : Prop := ∀ i, L i = true → ∀ d ∈ dirs ops i, L d = true

theorem tbl_in {ops : Array Oper} {tbl : List (List Nat)} (ht : tblOK ops tbl = true) {L : LF} (hc : Closed ops L) : ∀ (i : Nat), i < ops.size → (∀ d ∈ dirs ops i, L d = true) → ∀ p ∈ tb tbl i, L p = true := by
  intro i
  induction i using Nat.strongRecOn with
  | ind i ih =>
    intro hi hd p hp
    unfold tblOK at ht
    have h1 := List.all_eq_true.1 ht i (List.mem_range.2 hi)
    have h2 := List.all_eq_true.1 h1 p hp
    obtain ⟨d, hdm, hx⟩ := List.any_eq_true.1 h2
    rcases Bool.or_eq_true_iff.1 hx with h | h
    · rw [Nat.eq_of_beq_eq_true h]; exact hd d hdm
    · obtain ⟨h3, h4⟩ := Bool.and_eq_true_iff.1 h
      have hlt : d < i := by rwa [Nat.blt_eq] at h3
      exact ih d hlt (Nat.lt_trans hlt hi) (hc d (hd d hdm)) p (has_iff.1 h4)

def relB (ops : Array Oper) (tbl : List (List Nat)) (s r : DS) : Bool :=
  !(Nat.beq s.i r.i) && (match dstOf ops s.i with
    | none => true
    | some d => !(has r.lk d || (match dstOf ops r.i with | some d' => Nat.beq d' d | none => false)) || has (tb tbl s.i) r.i) &&
  (match dstOf ops r.i with
    | none => true
    | some d => !(has s.lk d) || has (tb tbl s.i) r.i)

def kindOK (tbl : List (List Nat)) (s : DS) (r : List DS) : Bool :=
  match s.k with
  | .fix gone => gone.all (has (tb tbl s.i)) && r.all fun s' => has (tb tbl s'.i) s.i
  | .ins j => has (tb tbl s.i) j
  | _ => true

def orderOK (ops : Array Oper) (tbl : List (List Nat)) : List DS → List DS → Bool
  | _, [] => true
  | bef, s :: r => Nat.blt s.i ops.size && (dirs ops s.i).all (has (bef.map (·.i))) && bef.all (relB ops tbl s) && kindOK tbl s r && orderOK ops tbl (s :: bef) r

def dpOK (ops : Array Oper) (dp : DP) : Bool :=
  tblOK ops dp.tbl && orderOK ops dp.tbl [] dp.steps && (List.range ops.size).all fun i => has (dp.steps.map (·.i)) i

structure Rc where
  s : DS
  v : Value

def EL (ops : Array Oper) (L : LF) (e0 : Ev) : List Rc → Ev
  | [] => e0
  | r :: rs => bif L r.s.i then putE (EL ops L e0 rs) (dstOf ops r.s.i) r.v else EL ops L e0 rs

theorem EL_cons (ops : Array Oper) (L : LF) (e0 : Ev) (r : Rc) (rs : List Rc) : EL ops L e0 (r :: rs) = bif L r.s.i then putE (EL ops L e0 rs) (dstOf ops r.s.i) r.v else EL ops L e0 rs := rfl

def tt : LF := fun _ => true

def Rel (ops : Array Oper) (tbl : List (List Nat)) (q r : Rc) : Prop :=
  q.s.i ≠ r.s.i ∧ (∀ d, dstOf ops q.s.i = some d → (d ∈ r.s.lk ∨ dstOf ops r.s.i = some d) → r.s.i ∈ tb tbl q.s.i) ∧ (∀ d, dstOf ops r.s.i = some d → d ∈ q.s.lk → r.s.i ∈ tb tbl q.s.i)

theorem rel_of {ops : Array Oper} {tbl : List (List Nat)} {q r : Rc} (h : relB ops tbl q.s r.s = true) : Rel ops tbl q r := by
  unfold relB at h
  obtain ⟨h12, h3⟩ := Bool.and_eq_true_iff.1 h
  obtain ⟨h1, h2⟩ := Bool.and_eq_true_iff.1 h12
  refine ⟨?_, fun d hd hx => ?_, fun d hd hx => ?_⟩
  · intro e
    rw [e, Nat.beq_refl] at h1
    cases h1
  · rw [hd] at h2
    rcases Bool.or_eq_true_iff.1 h2 with h | h
    · exfalso
      rw [Bool.not_eq_true', Bool.or_eq_false_iff] at h
      rcases hx with hx | hx
      · rw [has_iff.2 hx] at h; cases h.1
      · rw [hx] at h
        simp only [Nat.beq_refl] at h
        cases h.2
    · exact has_iff.1 h
  · rw [hd] at h3
    rcases Bool.or_eq_true_iff.1 h3 with h | h
    · rw [has_iff.2 hx] at h; cases h
    · exact has_iff.1 h

theorem getE_put {e : Ev} {d : Option Nat} {v : Value} {j : Nat} : getE (putE e d v) j = if d = some j then some v else getE e j := by
  cases d with
  | none => rfl
  | some d =>
    unfold putE
    simp only [getE]
    cases hb : Nat.beq j d with
    | true => rw [Nat.eq_of_beq_eq_true hb, if_pos rfl]; rfl
    | false =>
      rw [if_neg]
      · rfl
      · intro e1
        cases e1
        rw [Nat.beq_refl] at hb
        cases hb

theorem EL_tt {ops : Array Oper} {L : LF} {e0 : Ev} {d : Nat} : ∀ {rs : List Rc}, (∀ q ∈ rs, dstOf ops q.s.i = some d → L q.s.i = true) → getE (EL ops L e0 rs) d = getE (EL ops tt e0 rs) d
  | [], _ => rfl
  | r :: rs, h => by
    have ih := EL_tt (ops := ops) (L := L) (e0 := e0) (d := d) (rs := rs) fun q hq => h q (List.mem_cons_of_mem _ hq)
    unfold EL
    show getE (bif L r.s.i then _ else _) d = getE (putE (EL ops tt e0 rs) _ _) d
    rw [getE_put]
    by_cases e : dstOf ops r.s.i = some d
    · rw [if_pos e, h r List.mem_cons_self e, cond_true, getE_put, if_pos e]
    · rw [if_neg e, ← ih]
      cases L r.s.i
      · rfl
      · rw [cond_true, getE_put, if_neg e]

theorem EL_skip {ops : Array Oper} {L : LF} {e0 : Ev} {d : Nat} : ∀ {nw od : List Rc}, (∀ q ∈ nw, dstOf ops q.s.i = some d → L q.s.i = false) → getE (EL ops L e0 (nw ++ od)) d = getE (EL ops L e0 od) d
  | [], od, _ => rfl
  | r :: nw, od, h => by
    have ih := EL_skip (ops := ops) (L := L) (e0 := e0) (d := d) (nw := nw) (od := od) fun q hq => h q (List.mem_cons_of_mem _ hq)
    rw [List.cons_append, EL_cons]
    cases hL : L r.s.i with
    | false => rw [cond_false]; exact ih
    | true =>
      rw [cond_true, getE_put, if_neg, ih]
      intro e
      rw [h r List.mem_cons_self e] at hL
      cases hL

def LF.add (L : LF) (i : Nat) : LF := fun j => Nat.beq j i || L j

theorem LF.add_same (L : LF) (i : Nat) : L.add i i = true := by unfold LF.add; rw [Nat.beq_refl]; rfl
theorem LF.add_ne (L : LF) {i j : Nat} (h : j ≠ i) : L.add i j = L j := by
  unfold LF.add
  cases hb : Nat.beq j i
  · rfl
  · exact absurd (Nat.eq_of_beq_eq_true hb) h

theorem EL_congr {ops : Array Oper} {L L' : LF} {e0 : Ev} : ∀ {rs : List Rc}, (∀ q ∈ rs, L q.s.i = L' q.s.i) → EL ops L e0 rs = EL ops L' e0 rs
  | [], _ => rfl
  | r :: rs, h => by
    unfold EL
    rw [h r List.mem_cons_self, EL_congr fun q hq => h q (List.mem_cons_of_mem _ hq)]

section
variable {ops : Array Oper} {tbl : List (List Nat)} {L : LF} {e0 : Ev} {nw od : List Rc} {r : Rc}

theorem look_eq (ht : tblOK ops tbl = true) (hc : Closed ops L) (hp : (nw ++ r :: od).Pairwise (Rel ops tbl)) (hsz : ∀ q ∈ nw ++ r :: od, q.s.i < ops.size) (hr : L r.s.i = false) (hd : ∀ d ∈ dirs ops r.s.i, L d = true) {d : Nat} (hlk : d ∈ r.s.lk) :
    getE (EL ops L e0 (nw ++ r :: od)) d = getE (EL ops tt e0 od) d := by
  obtain ⟨_, hp2, hp3⟩ := List.pairwise_append.1 hp
  rw [EL_skip]
  · rw [EL_cons, hr, cond_false]
    refine EL_tt fun q hq hqd => ?_
    exact tbl_in ht hc r.s.i (hsz r (by simp)) hd _ (((List.pairwise_cons.1 hp2).1 q hq).2.2 d hqd hlk)
  · intro q hq hqd
    have := (hp3 q hq r List.mem_cons_self).2.1 d hqd (.inl hlk)
    cases hL : L q.s.i with
    | false => rfl
    | true =>
      have := tbl_in ht hc q.s.i (hsz q (List.mem_append_left _ hq)) (hc _ hL) _ this
      rw [hr] at this
      cases this

theorem look_er {m : Ren} {ρ : Env} (ht : tblOK ops tbl = true) (hc : Closed ops L) (hp : (nw ++ r :: od).Pairwise (Rel ops tbl)) (hsz : ∀ q ∈ nw ++ r :: od, q.s.i < ops.size) (hr : L r.s.i = false) (hd : ∀ d ∈ dirs ops r.s.i, L d = true)
    (he : ER m (EL ops L e0 (nw ++ r :: od)) ρ) : ER m (restr r.s.lk (EL ops tt e0 od)) ρ := by
  intro i v hv
  obtain ⟨h1, h2⟩ := restr_get hv
  exact he i v (by rw [look_eq ht hc hp hsz hr hd h1]; exact h2)

theorem put_er {m : Ren} {ρ : Env} {v' : Value} (ht : tblOK ops tbl = true) (hc : Closed ops L) (hp : (nw ++ r :: od).Pairwise (Rel ops tbl)) (hsz : ∀ q ∈ nw ++ r :: od, q.s.i < ops.size) (hr : L r.s.i = false)
    (he : ER m (EL ops L e0 (nw ++ r :: od)) ρ) (hv : VR m r.v v') : ER m (EL ops (L.add r.s.i) e0 (nw ++ r :: od)) (V.put ρ (dstOf ops r.s.i) v') := by
  obtain ⟨_, hp2, hp3⟩ := List.pairwise_append.1 hp
  have ho : EL ops (L.add r.s.i) e0 od = EL ops L e0 od := EL_congr fun q hq => LF.add_ne L fun e => ((List.pairwise_cons.1 hp2).1 q hq).1 e.symm
  have hn : ∀ q ∈ nw, L.add r.s.i q.s.i = L q.s.i := fun q hq => LF.add_ne L (hp3 q hq r List.mem_cons_self).1
  -- slot by slot
  intro j u hu
  have key : ∀ (nw' : List Rc), (∀ q ∈ nw', q ∈ nw) → getE (EL ops (L.add r.s.i) e0 (nw' ++ r :: od)) j = (if dstOf ops r.s.i = some j then some r.v else getE (EL ops L e0 (nw' ++ r :: od)) j) := by
    intro nw'
    induction nw' with
    | nil =>
      intro _
      show getE (EL ops (L.add r.s.i) e0 (r :: od)) j = (if _ then _ else getE (EL ops L e0 (r :: od)) j)
      rw [EL_cons, EL_cons, LF.add_same, cond_true, ho, getE_put, hr, cond_false]
    | cons q nw' ih =>
      intro hm
      have ih := ih fun x hx => hm x (List.mem_cons_of_mem _ hx)
      have hq := hm q List.mem_cons_self
      rw [List.cons_append]
      show getE (bif L.add r.s.i q.s.i then putE (EL ops (L.add r.s.i) e0 (nw' ++ r :: od)) (dstOf ops q.s.i) q.v else EL ops (L.add r.s.i) e0 (nw' ++ r :: od)) j = (if _ then _ else getE (bif L q.s.i then putE (EL ops L e0 (nw' ++ r :: od)) (dstOf ops q.s.i) q.v else EL ops L e0 (nw' ++ r :: od)) j)
      rw [hn q hq]
      cases hL : L q.s.i with
      | false => simp only [cond_false]; exact ih
      | true =>
        simp only [cond_true]
        rw [getE_put, getE_put, ih]
        by_cases e : dstOf ops q.s.i = some j
        · rw [if_pos e, if_pos e, if_neg]
          intro e2
          have := (hp3 q hq r List.mem_cons_self).2.1 j e (.inr e2)
          have := tbl_in ht hc q.s.i (hsz q (List.mem_append_left _ hq)) (hc _ hL) _ this
          rw [hr] at this
          cases this
        · rw [if_neg e, if_neg e]
  rw [key nw fun q hq => hq] at hu
  cases hdst : dstOf ops r.s.i with
  | none =>
    rw [hdst] at hu
    rw [if_neg (by simp)] at hu
    exact he j u hu
  | some d =>
    rw [hdst] at hu
    unfold V.put
    simp only
    by_cases e : d = j
    · subst e
      rw [if_pos rfl] at hu
      cases hu
      rw [Nat.beq_refl]
      exact hv
    · rw [if_neg (by simpa using e)] at hu
      have hb : Nat.beq j d = false := by
        cases hb : Nat.beq j d
        · rfl
        · exact absurd (Nat.eq_of_beq_eq_true hb).symm e
      rw [hb]
      exact he j u hu
end

end Go.X

/-
  THE EXECUTOR, part 18: a region in whatever order: its canonical run, and what holds of a world when some of its operations were done. Own work; generic in the program.
-/
set_option linter.unusedVariables false
set_option maxRecDepth 20000
namespace Go.X
open Go Go.V Go.RowKit

mutual
def veqA : Nat → Value → Value → Bool
  | n + 1, .agg xs, .agg ys => veqL n xs.toList ys.toList
  | n + 1, .tuple xs, .tuple ys => veqL n xs.toList ys.toList
  | n + 1, .func (.func g) f c, .func (.func g') f' c' => Nat.beq g g' && veqL n f.toList f'.toList && veqL n c.toList c'.toList
  | n + 1, .func (.yield g) f c, .func (.yield g') f' c' => Nat.beq g g' && veqL n f.toList f'.toList && veqL n c.toList c'.toList
  | n, x, y => veq n x y
def veqL : Nat → List Value → List Value → Bool
  | _, [], [] => true
  | n + 1, x :: xs, y :: ys => veqA n x y && veqL n xs ys
  | _, _, _ => false
end

mutual
theorem veqA_ok : ∀ {n : Nat} {x y : Value}, veqA n x y = true → x = y := by
  intro n x y h
  unfold veqA at h
  split at h
  · rename_i n xs ys
    have := veqL_ok h
    rw [Array.toList_inj.1 this]
  · rename_i n xs ys
    have := veqL_ok h
    rw [Array.toList_inj.1 this]
  · rename_i n g f c g' f' c'
    obtain ⟨h12, h3⟩ := Bool.and_eq_true_iff.1 h
    obtain ⟨h1, h2⟩ := Bool.and_eq_true_iff.1 h12
    rw [Nat.eq_of_beq_eq_true h1, Array.toList_inj.1 (veqL_ok h2), Array.toList_inj.1 (veqL_ok h3)]
  · rename_i n g f c g' f' c'
    obtain ⟨h12, h3⟩ := Bool.and_eq_true_iff.1 h
    obtain ⟨h1, h2⟩ := Bool.and_eq_true_iff.1 h12
    rw [Nat.eq_of_beq_eq_true h1, Array.toList_inj.1 (veqL_ok h2), Array.toList_inj.1 (veqL_ok h3)]
  · exact veq_ok h
theorem veqL_ok : ∀ {n : Nat} {x y : List Value}, veqL n x y = true → x = y := by
  intro n x y h
  unfold veqL at h
  split at h
  · rfl
  · obtain ⟨h1, h2⟩ := Bool.and_eq_true_iff.1 h
    rw [veqA_ok h1, veqL_ok h2]
  · cases h
end

structure PN where
  i : Nat
  n : Nat
  kd : IntKind
  ins : List (Nat × Int × Value)

structure PRd where
  i : Nat
  op : Op
  e : Ev
  v : Value

structure Pt where
  C : St
  e : Ev
  rs : List Rc
  pn : List PN
  pr : List PRd
  must : List Nat

noncomputable def killN : List PN → Tr Blk → Tr Blk
  | [], H => H
  | q :: r, H => (killN r H).set .dead q.n

theorem killN_get {H : Tr Blk} {b : Nat} : ∀ {pn : List PN}, (killN pn H).get b = if b ∈ pn.map (·.n) then some .dead else H.get b
  | [] => by simp [killN]
  | q :: r => by
    unfold killN
    rw [get_set, killN_get (pn := r)]
    by_cases e : b = q.n
    · rw [if_pos e, if_pos (by simp [e])]
    · rw [if_neg e]
      by_cases e2 : b ∈ r.map (·.n)
      · rw [if_pos e2, if_pos (by rw [List.map_cons]; exact List.mem_cons_of_mem _ e2)]
      · rw [if_neg e2, if_neg (by rw [List.map_cons, List.mem_cons]; exact fun h => h.elim e e2)]

noncomputable def backN (H0 : Tr Blk) : List PN → Tr Blk → Tr Blk
  | [], H => H
  | q :: r, H => match H0.get q.n with
    | some k => (backN H0 r H).set k q.n
    | none => backN H0 r H

theorem backN_get {H0 H : Tr Blk} {b : Nat} : ∀ {pn : List PN}, (∀ q ∈ pn, (H0.get q.n).isSome = true) → (backN H0 pn H).get b = if b ∈ pn.map (·.n) then H0.get b else H.get b
  | [], _ => by simp [backN]
  | q :: r, h => by
    have ih := backN_get (H0 := H0) (H := H) (b := b) (pn := r) fun x hx => h x (List.mem_cons_of_mem _ hx)
    have hq := h q List.mem_cons_self
    unfold backN
    split
    · rename_i k hk
      rw [get_set, ih]
      by_cases e : b = q.n
      · rw [if_pos e, if_pos (by simp [e]), e, hk]
      · rw [if_neg e]
        by_cases e2 : b ∈ r.map (·.n)
        · rw [if_pos e2, if_pos (by rw [List.map_cons]; exact List.mem_cons_of_mem _ e2)]
        · rw [if_neg e2, if_neg (by rw [List.map_cons, List.mem_cons]; exact fun h => h.elim e e2)]
    · rename_i hk
      rw [hk] at hq
      cases hq

def insArgs (op : Op) : Option (TypeId × Operand × Operand × Operand) :=
  match op with
  | .insert t x k u => some (t, x, k, u)
  | .mapUpdate t x k u => some (t, x, k, u)
  | _ => none

def mapKd (P : Program) (t : TypeId) (kd : IntKind) : Bool :=
  match P.underlying t with
  | some (.map kt _) => intKey P kt kd
  | _ => false

def addIns (j : Nat) (kd : IntKind) (x : Nat × Int × Value) (pn : List PN) : List PN := pn.map fun q => bif Nat.beq q.i j then { q with kd := kd, ins := x :: q.ins } else q

def pnI : List PN → Nat → Option PN
  | [], _ => none
  | q :: r, j => bif Nat.beq q.i j then some q else pnI r j

def Pt.note (pt : Pt) (ops : Array Oper) (s : DS) (v : Value) : Pt := { pt with e := putE pt.e (dstOf ops s.i) v, rs := ⟨s, v⟩ :: pt.rs }

noncomputable def litOf (st : St) (b : Nat) (kd : IntKind) : Option (List (Int × Value)) :=
  match st.heap.get b with
  | some (.mapI k ks cl none) => if k = kd then if cl = ks.length then some ks else none else none
  | _ => none

noncomputable def dIns (P : Program) (N : Nat) (pt : Pt) (i j : Nat) (e : Ev) (op : Op) : Option Pt :=
  match insArgs op with
  | some (t, x, k, u) => match evX N e x, evX N e k, evX N e u, pnI pt.pn j with
    | some (.map (some b)), some (.int kd n), some v, some q => if mapKd P t kd = true then if q.n = b then match litOf pt.C b kd with
      | some ks => if ks.length = q.ins.length then match getI n ks with
        | none => some { pt with C := pt.C.put b (.mapI kd ((n, v) :: ks) (ks.length + 1) none), pn := addIns j kd (i, n, v) pt.pn }
        | some _ => none else none
      | none => none else none else none
    | _, _, _, _ => none
  | none => none

noncomputable def dFix (P : Program) (N : Nat) (C : Caller) (pt : Pt) (i : Nat) (gone : List Nat) (e : Ev) (op : Op) : Option (Value × Pt) :=
  if pt.pn.all (fun q => !(has gone q.i) || q.ins.isEmpty) = true then
    match xOp P N C ⟨killN (pt.pn.filter fun q => !(has gone q.i)) pt.C.heap, pt.C.next⟩ e op with
    | some (v, st') => if pt.C.next ≤ st'.next then
      if (pt.pr.filter fun q => !(has gone q.i)).all (fun r => match xRd P N ⟨killN (pt.pn.filter fun q => !(has gone q.i)) st'.heap, 0⟩ r.e r.op with
        | some u => veqA 100 u r.v
        | none => false) = true then
        some (v, { pt with C := ⟨backN pt.C.heap (pt.pn.filter fun q => !(has gone q.i)) st'.heap, st'.next⟩, pn := pt.pn.filter fun q => !(has gone q.i), pr := pt.pr.filter fun q => !(has gone q.i), must := i :: (gone ++ pt.must) })
      else none else none
    | none => none
  else none

noncomputable def dstep (P : Program) (N : Nat) (C : Caller) (ops : Array Oper) (pt : Pt) (s : DS) : Option Pt :=
  match ops[s.i]? with
  | none => none
  | some o => match gRun (ops.toList.map (·.dst)) o.guard (restr s.lk pt.e) with
    | none => none
    | some false => match s.k with
      | .fix _ => some (Pt.note { pt with must := s.i :: pt.must } ops s undef)
      | _ => some (pt.note ops s undef)
    | some true => match s.k with
      | .pure => match xLt P N (restr s.lk pt.e) o.op with
        | some v => some (pt.note ops s v)
        | none => none
      | .new => match xNew P N pt.C.next (restr s.lk pt.e) o.op with
        | some (v, bk) => some (Pt.note { pt with C := pt.C.new bk, pn := ⟨s.i, pt.C.next, .i64, []⟩ :: pt.pn } ops s v)
        | none => none
      | .read => match xRd P N ⟨killN pt.pn pt.C.heap, 0⟩ (restr s.lk pt.e) o.op with
        | some v => some (Pt.note { pt with pr := ⟨s.i, o.op, restr s.lk pt.e, v⟩ :: pt.pr } ops s v)
        | none => none
      | .ins j => match dIns P N pt s.i j (restr s.lk pt.e) o.op with
        | some pt' => some (pt'.note ops s undef)
        | none => none
      | .fix gone => match dFix P N C pt s.i gone (restr s.lk pt.e) o.op with
        | some (v, pt') => some (pt'.note ops s v)
        | none => none

noncomputable def dfold (P : Program) (N : Nat) (C : Caller) (ops : Array Oper) : Pt → List DS → Option Pt
  | pt, [] => some pt
  | pt, s :: r => match dstep P N C ops pt s with
    | some pt' => dfold P N C ops pt' r
    | none => none

noncomputable def xDraw (P : Program) (N : Nat) (C : Caller) (ops : Array Oper) (dp : DP) (e : Ev) (st : St) : Option (Ev × St) :=
  match dfold P N C ops ⟨st, e, [], [], [], []⟩ dp.steps with
  | some pt => some (pt.e, pt.C)
  | none => none

def pnAt : List PN → Nat → Option PN
  | [], _ => none
  | q :: r, b => bif Nat.beq q.n b then some q else pnAt r b

theorem pnAt_some {b : Nat} {q : PN} : ∀ {pn : List PN}, pnAt pn b = some q → q ∈ pn ∧ q.n = b
  | [], h => by cases h
  | p :: r, h => by
    unfold pnAt at h
    cases hb : Nat.beq p.n b with
    | true => rw [hb, cond_true] at h; cases h; exact ⟨List.mem_cons_self, Nat.eq_of_beq_eq_true hb⟩
    | false => rw [hb, cond_false] at h; have := pnAt_some h; exact ⟨List.mem_cons_of_mem _ this.1, this.2⟩

theorem pnAt_none {b : Nat} : ∀ {pn : List PN}, pnAt pn b = none → ∀ q ∈ pn, q.n ≠ b
  | [], _, q, hq => by cases hq
  | p :: r, h, q, hq => by
    unfold pnAt at h
    cases hb : Nat.beq p.n b with
    | true => rw [hb, cond_true] at h; cases h
    | false =>
      rw [hb, cond_false] at h
      rcases List.mem_cons.1 hq with rfl | hq
      · intro e; rw [e, Nat.beq_refl] at hb; cases hb
      · exact pnAt_none h q hq

def Apart (a b : PN) : Prop := a.n ≠ b.n ∧ a.i ≠ b.i

theorem pnAt_mem {q : PN} : ∀ {pn : List PN}, pn.Pairwise Apart → q ∈ pn → pnAt pn q.n = some q
  | [], _, hq => by cases hq
  | p :: r, hp, hq => by
    obtain ⟨h1, h2⟩ := List.pairwise_cons.1 hp
    unfold pnAt
    rcases List.mem_cons.1 hq with rfl | hq
    · rw [Nat.beq_refl]; rfl
    · have : Nat.beq p.n q.n = false := by
        cases hb : Nat.beq p.n q.n
        · rfl
        · exact absurd (Nat.eq_of_beq_eq_true hb) (h1 q hq).1
      rw [this, cond_false]
      exact pnAt_mem h2 hq

theorem pnI_some {j : Nat} {q : PN} : ∀ {pn : List PN}, pnI pn j = some q → q ∈ pn ∧ q.i = j
  | [], h => by cases h
  | p :: r, h => by
    unfold pnI at h
    cases hb : Nat.beq p.i j with
    | true => rw [hb, cond_true] at h; cases h; exact ⟨List.mem_cons_self, Nat.eq_of_beq_eq_true hb⟩
    | false => rw [hb, cond_false] at h; have := pnI_some h; exact ⟨List.mem_cons_of_mem _ this.1, this.2⟩

def insL (L : LF) (q : PN) : List (Int × Value) := (q.ins.filter fun x => L x.1).map (·.2)

noncomputable def cont (L : LF) (q : PN) (H : Tr Blk) : Option Blk :=
  bif L q.i then (match q.ins with
    | [] => H.get q.n
    | _ => some (.mapI q.kd (insL L q) (insL L q).length none)) else none

noncomputable def hL (pt : Pt) (L : LF) (b : Nat) : Option Blk :=
  match pnAt pt.pn b with
  | some q => cont L q pt.C.heap
  | none => pt.C.heap.get b

def NoRole (pn : List PN) (i : Nat) : Prop := ∀ q ∈ pn, q.i ≠ i ∧ ∀ x ∈ q.ins, x.1 ≠ i

inductive Light (P : Program) (N : Nat) (ops : Array Oper) (tbl : List (List Nat)) (pt : Pt) (r : Rc) (o : Oper) (e : Ev) : Prop
  | skip (hg : gRun (ops.toList.map (·.dst)) o.guard e = some false) (hv : r.v = undef) (hn : NoRole pt.pn r.s.i)
  | pure (hg : gRun (ops.toList.map (·.dst)) o.guard e = some true) (h : xLt P N e o.op = some r.v) (hn : NoRole pt.pn r.s.i)
  | new (hg : gRun (ops.toList.map (·.dst)) o.guard e = some true) (q : PN) (hq : q ∈ pt.pn) (hi : q.i = r.s.i) (bk : Blk) (h : xNew P N q.n e o.op = some (r.v, bk))
      (hc : (q.ins = [] ∧ pt.C.heap.get q.n = some bk) ∨ (q.ins ≠ [] ∧ bk = .mapI q.kd [] 0 none)) (hn : ∀ q ∈ pt.pn, ∀ x ∈ q.ins, x.1 ≠ r.s.i)
  | read (hg : gRun (ops.toList.map (·.dst)) o.guard e = some true) (p : PRd) (hp : p ∈ pt.pr) (h1 : p.op = o.op) (h2 : p.e = e) (h3 : p.v = r.v) (h4 : p.i = r.s.i) (hn : NoRole pt.pn r.s.i)
  | ins (hg : gRun (ops.toList.map (·.dst)) o.guard e = some true) (q : PN) (hq : q ∈ pt.pn) (t : TypeId) (x k u : Operand) (n : Int) (v : Value) (ha : insArgs o.op = some (t, x, k, u))
      (hx : evX N e x = some (.map (some q.n))) (hk : evX N e k = some (.int q.kd n)) (hu : evX N e u = some v) (ht : mapKd P t q.kd = true) (hi : (r.s.i, n, v) ∈ q.ins) (hv : r.v = undef) (hn : ∀ q2 ∈ pt.pn, q2.i ≠ r.s.i ∧ ∀ x ∈ q2.ins, x.1 = r.s.i → q2.n = q.n)

def AllOK (P : Program) (N : Nat) (ops : Array Oper) (tbl : List (List Nat)) (e0 : Ev) (pt : Pt) : List Rc → Prop
  | [] => True
  | r :: od => (r.s.i ∈ pt.must ∨ ∃ o, ops[r.s.i]? = some o ∧ Light P N ops tbl pt r o (restr r.s.lk (EL ops tt e0 od))) ∧ AllOK P N ops tbl e0 pt od

structure WF (P : Program) (N : Nat) (ops : Array Oper) (tbl : List (List Nat)) (e0 : Ev) (base : Nat) (pt : Pt) : Prop where
  nx : ∀ b, pt.C.next ≤ b → pt.C.heap.get b = none
  names : ∀ q ∈ pt.pn, q.n < pt.C.next ∧ ∃ bk, pt.C.heap.get q.n = some bk ∧ bk ≠ .dead ∧ (q.ins ≠ [] → bk = .mapI q.kd (q.ins.map (·.2)) q.ins.length none)
  nod : pt.pn.Pairwise Apart
  keys : ∀ q ∈ pt.pn, (q.ins.map (·.2.1)).Nodup ∧ (q.ins.map (·.1)).Nodup ∧ ∀ x ∈ q.ins, q.i ∈ tb tbl x.1 ∧ x.1 ∈ pt.rs.map (·.s.i)
  env : pt.e = EL ops tt e0 pt.rs
  rel : pt.rs.Pairwise (Rel ops tbl)
  sz : ∀ r ∈ pt.rs, r.s.i < ops.size
  reads : ∀ p ∈ pt.pr, ∃ Q : Tr Blk, (∀ b k, Q.get b = some k → k ≠ .dead → pt.C.heap.get b = some k ∧ b ∉ pt.pn.map (·.n)) ∧ (∀ b, pt.C.next ≤ b → Q.get b = none) ∧ ∀ nx, xRd P N ⟨Q, nx⟩ p.e p.op = some p.v
  lights : AllOK P N ops tbl e0 pt pt.rs
  bs : base ≤ pt.C.next
  mine : ∀ q ∈ pt.pn, q.i ∈ pt.rs.map (·.s.i) ∧ base ≤ q.n

structure G (ops : Array Oper) (m : Ren) (base : Nat) (e0 : Ev) (pt : Pt) (L : LF) (ρ : Env) (w : World) (m' : Ren) : Prop where
  le : m.le m'
  sim : SimH m' (hL pt L) w
  fresh : ∀ b, pt.C.next ≤ b → m' b = none
  pend : ∀ q ∈ pt.pn, L q.i = false → m' q.n = none
  res : ∀ b, m.R b → m' b = none ∧ b < base
  er : ER m' (EL ops L e0 pt.rs) ρ
  must : ∀ i ∈ pt.must, L i = true

theorem xRd_nx {P : Program} {N : Nat} {H : Tr Blk} {a b : Nat} {e : Ev} {op : Op} : xRd P N ⟨H, a⟩ e op = xRd P N ⟨H, b⟩ e op := by
  cases op <;> rfl

end Go.X

/-
  THE EXECUTOR, part 19: the canonical run keeps its records right. Own work; generic in the program.
-/
set_option linter.unusedVariables false
set_option maxRecDepth 20000
namespace Go.X
open Go Go.V Go.RowKit

section
variable {P : Program} {N : Nat} {C : Caller} {ops : Array Oper} {tbl : List (List Nat)} {e0 : Ev} {base : Nat} {pt pt' : Pt}

theorem AllOK.mono (hm : ∀ i ∈ pt.must, i ∈ pt'.must) {rs0 : List Rc} (hl : ∀ r ∈ rs0, ∀ o e, Light P N ops tbl pt r o e → r.s.i ∈ pt'.must ∨ Light P N ops tbl pt' r o e) : ∀ {rs : List Rc}, (∀ r ∈ rs, r ∈ rs0) → AllOK P N ops tbl e0 pt rs → AllOK P N ops tbl e0 pt' rs
  | [], _, _ => trivial
  | r :: od, hs, ⟨h1, h2⟩ => ⟨h1.elim (fun h => .inl (hm _ h)) fun ⟨o, ho, h⟩ => (hl _ (hs r List.mem_cons_self) _ _ h).imp id fun h' => ⟨o, ho, h'⟩, AllOK.mono hm hl (fun r hr => hs r (List.mem_cons_of_mem _ hr)) h2⟩

theorem Light.mono {r : Rc} {o : Oper} {e : Ev} (h : Light P N ops tbl pt r o e)
    (hn : ∀ q ∈ pt.pn, q.i ∈ pt'.must ∨ ∃ q' ∈ pt'.pn, q'.i = q.i ∧ q'.n = q.n ∧ (q.ins = [] → (q'.ins = [] ∧ pt'.C.heap.get q.n = pt.C.heap.get q.n) ∨ (q'.ins ≠ [] ∧ pt.C.heap.get q.n = some (.mapI q'.kd [] 0 none))) ∧ (q.ins ≠ [] → q'.ins ≠ [] ∧ q'.kd = q.kd))
    (hi : ∀ q ∈ pt.pn, q.ins ≠ [] → ∃ q' ∈ pt'.pn, q'.n = q.n ∧ q'.kd = q.kd ∧ ∀ x ∈ q.ins, x ∈ q'.ins) (hr : ∀ p ∈ pt.pr, p.i ∈ pt'.must ∨ p ∈ pt'.pr)
    {si : Nat} (hsi : r.s.i ≠ si) (hq : ∀ q' ∈ pt'.pn, (q'.i = si ∨ ∃ q ∈ pt.pn, q.i = q'.i) ∧ ∀ x ∈ q'.ins, x.1 = si ∨ ∃ q ∈ pt.pn, q.n = q'.n ∧ x ∈ q.ins) : r.s.i ∈ pt'.must ∨ Light P N ops tbl pt' r o e := by
  have key : NoRole pt.pn r.s.i → NoRole pt'.pn r.s.i := fun hr q' hq' => ⟨by
      rcases (hq q' hq').1 with e | ⟨q, h1, h2⟩
      · rw [e]; exact hsi.symm
      · rw [← h2]; exact (hr q h1).1, fun x hx => by
      rcases (hq q' hq').2 x hx with e | ⟨q, h1, _, h2⟩
      · rw [e]; exact hsi.symm
      · exact (hr q h1).2 x h2⟩
  cases h with
  | skip hg hv hr => exact .inr (.skip hg hv (key hr))
  | pure hg h hr => exact .inr (.pure hg h (key hr))
  | new hg q hq0 hqi bk h hc hnr =>
    have hnr' : ∀ q' ∈ pt'.pn, ∀ x ∈ q'.ins, x.1 ≠ r.s.i := fun q' hq' x hx => by
      rcases (hq q' hq').2 x hx with e | ⟨q, h1, _, h2⟩
      · rw [e]; exact hsi.symm
      · exact hnr q h1 x h2
    rcases hn q hq0 with h1 | ⟨q', h1, h2, h3, h4, h5⟩
    · rw [← hqi]; exact .inl h1
    · refine .inr (.new hg q' h1 (h2.trans hqi) bk (by rw [h3]; exact h) ?_ hnr')
      rcases hc with ⟨hc1, hc2⟩ | ⟨hc1, hc2⟩
      · rcases h4 hc1 with ⟨h6, h7⟩ | ⟨h6, h7⟩
        · exact .inl ⟨h6, by rw [h3, h7]; exact hc2⟩
        · rw [hc2] at h7
          exact .inr ⟨h6, by injection h7⟩
      · obtain ⟨h6, h7⟩ := h5 hc1
        exact .inr ⟨h6, by rw [h7]; exact hc2⟩
  | read hg p hp h1 h2 h3 h4 hnr =>
    rcases hr p hp with h | h
    · rw [← h4]; exact .inl h
    · exact .inr (.read hg p h h1 h2 h3 h4 (key hnr))
  | ins hg q hq0 t x k u n v ha hx hk hu ht hin hv hnr =>
    obtain ⟨q', h1, h2, h3, h4⟩ := hi q hq0 (by intro e; rw [e] at hin; cases hin)
    refine .inr (.ins hg q' h1 t x k u n v ha (by rw [h2]; exact hx) (by rw [h3]; exact hk) hu (by rw [h3]; exact ht) (h4 _ hin) hv fun q2 hq2 => ⟨?_, fun y hy hyi => ?_⟩)
    · rcases (hq q2 hq2).1 with e | ⟨q3, g1, g2⟩
      · rw [e]; exact hsi.symm
      · rw [← g2]; exact (hnr q3 g1).1
    · rcases (hq q2 hq2).2 y hy with e | ⟨q3, g1, g2, g3⟩
      · exact absurd (e.symm.trans hyi) hsi.symm
      · rw [← g2, h2]; exact (hnr q3 g1).2 y g3 hyi

structure Step (ops : Array Oper) (tbl : List (List Nat)) (pt : Pt) (s : DS) : Prop where
  sz : s.i < ops.size
  rel : ∀ r ∈ pt.rs, ∀ v, Rel ops tbl ⟨s, v⟩ r
  ins : ∀ j, s.k = .ins j → j ∈ tb tbl s.i
  gone : ∀ g, s.k = .fix g → ∀ i ∈ g, i ∈ tb tbl s.i

theorem Step.fresh {s : DS} (h : Step ops tbl pt s) : ∀ i ∈ pt.rs.map (·.s.i), i ≠ s.i := by
  intro i hi e
  obtain ⟨r, hr, rfl⟩ := List.mem_map.1 hi
  exact (h.rel r hr undef).1 e.symm

theorem WF.note {s : DS} {v : Value} (hst : Step ops tbl pt s) (hrs : pt'.rs = pt.rs) (he : pt'.e = pt.e) (hw : WF P N ops tbl e0 base pt)
    (hC : (∀ b, pt'.C.next ≤ b → pt'.C.heap.get b = none) ∧ base ≤ pt'.C.next) (hn : ∀ q ∈ pt'.pn, q.n < pt'.C.next ∧ ∃ bk, pt'.C.heap.get q.n = some bk ∧ bk ≠ .dead ∧ (q.ins ≠ [] → bk = .mapI q.kd (q.ins.map (·.2)) q.ins.length none)) (hnod : pt'.pn.Pairwise Apart)
    (hk : ∀ q ∈ pt'.pn, (q.ins.map (·.2.1)).Nodup ∧ (q.ins.map (·.1)).Nodup ∧ ∀ x ∈ q.ins, q.i ∈ tb tbl x.1 ∧ (x.1 ∈ pt.rs.map (·.s.i) ∨ x.1 = s.i))
    (hr : ∀ p ∈ pt'.pr, ∃ Q : Tr Blk, (∀ b k, Q.get b = some k → k ≠ .dead → pt'.C.heap.get b = some k ∧ b ∉ pt'.pn.map (·.n)) ∧ (∀ b, pt'.C.next ≤ b → Q.get b = none) ∧ ∀ nx, xRd P N ⟨Q, nx⟩ p.e p.op = some p.v)
    (hm : ∀ q ∈ pt'.pn, (q.i ∈ pt.rs.map (·.s.i) ∨ q.i = s.i) ∧ base ≤ q.n)
    (hl : AllOK P N ops tbl e0 (pt'.note ops s v) pt.rs) (hs : s.i ∈ pt'.must ∨ ∃ o, ops[s.i]? = some o ∧ Light P N ops tbl (pt'.note ops s v) ⟨s, v⟩ o (restr s.lk pt.e)) : WF P N ops tbl e0 base (pt'.note ops s v) := by
  have hmap : ∀ i, i ∈ pt.rs.map (·.s.i) ∨ i = s.i → i ∈ (pt'.note ops s v).rs.map (·.s.i) := by
    intro i hi
    show i ∈ (Rc.mk s v :: pt'.rs).map (·.s.i)
    rw [hrs, List.map_cons, List.mem_cons]
    exact hi.symm
  refine ⟨hC.1, hn, hnod, fun q hq => ⟨(hk q hq).1, (hk q hq).2.1, fun x hx => ⟨((hk q hq).2.2 x hx).1, hmap _ ((hk q hq).2.2 x hx).2⟩⟩, ?_, ?_, ?_, hr, ?_, hC.2, fun q hq => ⟨hmap _ (hm q hq).1, (hm q hq).2⟩⟩
  · show putE pt'.e _ v = EL ops tt e0 (⟨s, v⟩ :: pt'.rs)
    rw [he, hrs, hw.env]
    rfl
  · show (Rc.mk s v :: pt'.rs).Pairwise _
    rw [hrs]
    exact List.pairwise_cons.2 ⟨fun r hr => hst.rel r hr v, hw.rel⟩
  · intro r hr
    have hr' : r ∈ Rc.mk s v :: pt'.rs := hr
    rw [hrs] at hr'
    rcases List.mem_cons.1 hr' with rfl | hr'
    · exact hst.sz
    · exact hw.sz r hr'
  · show AllOK P N ops tbl e0 _ (⟨s, v⟩ :: pt'.rs)
    rw [hrs]
    exact ⟨by rw [← hw.env]; exact hs, hl⟩

theorem WF.same {s : DS} {v : Value} (hst : Step ops tbl pt s) (hw : WF P N ops tbl e0 base pt) (hC : pt'.C = pt.C) (hpn : pt'.pn = pt.pn) (hpr : ∀ p ∈ pt.pr, p ∈ pt'.pr) (hmu : ∀ i ∈ pt.must, i ∈ pt'.must) (hrs : pt'.rs = pt.rs) (he : pt'.e = pt.e)
    (hr : ∀ p ∈ pt'.pr, ∃ Q : Tr Blk, (∀ b k, Q.get b = some k → k ≠ .dead → pt.C.heap.get b = some k ∧ b ∉ pt.pn.map (·.n)) ∧ (∀ b, pt.C.next ≤ b → Q.get b = none) ∧ ∀ nx, xRd P N ⟨Q, nx⟩ p.e p.op = some p.v)
    (hs : s.i ∈ pt'.must ∨ ∃ o, ops[s.i]? = some o ∧ Light P N ops tbl (pt'.note ops s v) ⟨s, v⟩ o (restr s.lk pt.e)) : WF P N ops tbl e0 base (pt'.note ops s v) := by
  refine WF.note hst hrs he hw (by rw [hC]; exact ⟨hw.nx, hw.bs⟩) (by rw [hC, hpn]; exact hw.names) (by rw [hpn]; exact hw.nod) (by rw [hpn]; exact fun q hq => ⟨(hw.keys q hq).1, (hw.keys q hq).2.1, fun x hx => ⟨((hw.keys q hq).2.2 x hx).1, .inl ((hw.keys q hq).2.2 x hx).2⟩⟩)
    (by rw [hC, hpn]; exact hr) (by rw [hpn]; exact fun q hq => ⟨.inl (hw.mine q hq).1, (hw.mine q hq).2⟩) (AllOK.mono (pt' := pt'.note ops s v) (rs0 := pt.rs) hmu (fun r hr o e h => ?_) (fun _ h => h) hw.lights) hs
  refine Light.mono (pt' := pt'.note ops s v) h (fun q hq => .inr ⟨q, by show q ∈ pt'.pn; rw [hpn]; exact hq, rfl, rfl, fun h => .inl ⟨h, by show pt'.C.heap.get _ = _; rw [hC]⟩, fun h => ⟨h, rfl⟩⟩) (fun q hq _ => ⟨q, by show q ∈ pt'.pn; rw [hpn]; exact hq, rfl, rfl, fun x hx => hx⟩) (fun p hp => .inr (hpr p hp)) (si := s.i) (fun e => hst.fresh _ (List.mem_map_of_mem (f := fun r : Rc => r.s.i) hr) e) (fun q' hq' => by
    have hq' : q' ∈ pt'.pn := hq'
    rw [hpn] at hq'
    exact ⟨.inr ⟨q', hq', rfl⟩, fun x hx => .inr ⟨q', hq', rfl, hx⟩⟩)

theorem mapI_ne {kd : IntKind} {ks : List (Int × Value)} {cl : Nat} {last : Option (Int × Nat)} : Blk.mapI kd ks cl last ≠ .dead := by intro e; cases e

theorem xNew_alive {n : Nat} {e : Ev} {op : Op} {v : Value} {bk : Blk} (h : xNew P N n e op = some (v, bk)) : bk ≠ .dead := by
  unfold xNew at h
  split at h <;> try (cases h; done)
  · split at h <;> try (cases h; done)
    split at h <;> try (cases h; done)
    cases h; intro e; cases e
  · split at h <;> try (cases h; done)
    cases h; intro e; cases e
  · split at h <;> try (cases h; done)
    split at h <;> try (cases h; done)
    split at h <;> try (cases h; done)
    split at h <;> try (cases h; done)
    split at h <;> try (cases h; done)
    split at h <;> try (cases h; done)
    split at h <;> try (cases h; done)
    split at h <;> try (cases h; done)
    cases h; intro e; cases e
  · repeat' (split at h <;> try (cases h; done))
    cases h; intro e; cases e
  · split at h <;> try (cases h; done)
    split at h <;> try (cases h; done)
    cases h; intro e; cases e

theorem litOf_get {st : St} {b : Nat} {kd : IntKind} {ks : List (Int × Value)} (h : litOf st b kd = some ks) : st.heap.get b = some (.mapI kd ks ks.length none) := by
  unfold litOf at h
  split at h <;> try (cases h; done)
  rename_i k ks0 cl hb
  split at h <;> try (cases h; done)
  rename_i e
  split at h <;> try (cases h; done)
  rename_i e2
  cases h
  subst e e2
  exact hb

theorem addIns_mem {j : Nat} {kd : IntKind} {x : Nat × Int × Value} {pn : List PN} {q' : PN} (h : q' ∈ addIns j kd x pn) : ∃ q ∈ pn, q' = if q.i = j then { q with kd := kd, ins := x :: q.ins } else q := by
  unfold addIns at h
  obtain ⟨q, hq, rfl⟩ := List.mem_map.1 h
  refine ⟨q, hq, ?_⟩
  cases hb : Nat.beq q.i j with
  | true => rw [if_pos (Nat.eq_of_beq_eq_true hb)]; rfl
  | false => rw [if_neg (fun e => by rw [e, Nat.beq_refl] at hb; cases hb)]; rfl

theorem mem_addIns {j : Nat} {kd : IntKind} {x : Nat × Int × Value} {pn : List PN} {q : PN} (h : q ∈ pn) : (if q.i = j then { q with kd := kd, ins := x :: q.ins } else q) ∈ addIns j kd x pn := by
  unfold addIns
  refine List.mem_map.2 ⟨q, h, ?_⟩
  cases hb : Nat.beq q.i j with
  | true => rw [if_pos (Nat.eq_of_beq_eq_true hb)]; rfl
  | false => rw [if_neg (fun e => by rw [e, Nat.beq_refl] at hb; cases hb)]; rfl

theorem addIns_names (j : Nat) (kd : IntKind) (x : Nat × Int × Value) (pn : List PN) : (addIns j kd x pn).map (·.n) = pn.map (·.n) := by
  unfold addIns
  rw [List.map_map]
  apply List.map_congr_left
  intro q _
  show (bif Nat.beq q.i j then _ else _ : PN).n = q.n
  cases Nat.beq q.i j <;> rfl

theorem addIns_apart {j : Nat} {kd : IntKind} {x : Nat × Int × Value} {pn : List PN} (h : pn.Pairwise Apart) : (addIns j kd x pn).Pairwise Apart := by
  unfold addIns
  rw [List.pairwise_map]
  refine h.imp fun {a b} hab => ?_
  have e1 : (bif Nat.beq a.i j then { a with kd := kd, ins := x :: a.ins } else a : PN).n = a.n := by cases Nat.beq a.i j <;> rfl
  have e2 : (bif Nat.beq b.i j then { b with kd := kd, ins := x :: b.ins } else b : PN).n = b.n := by cases Nat.beq b.i j <;> rfl
  have e3 : (bif Nat.beq a.i j then { a with kd := kd, ins := x :: a.ins } else a : PN).i = a.i := by cases Nat.beq a.i j <;> rfl
  have e4 : (bif Nat.beq b.i j then { b with kd := kd, ins := x :: b.ins } else b : PN).i = b.i := by cases Nat.beq b.i j <;> rfl
  exact ⟨by rw [e1, e2]; exact hab.1, by rw [e3, e4]; exact hab.2⟩

theorem dIns_out {i j : Nat} {e : Ev} {op : Op} (hw : WF P N ops tbl e0 base pt) (h : dIns P N pt i j e op = some pt') : ∃ t x k u kd n v q, insArgs op = some (t, x, k, u) ∧ evX N e x = some (.map (some q.n)) ∧ evX N e k = some (.int kd n) ∧ evX N e u = some v ∧
    q ∈ pt.pn ∧ q.i = j ∧ mapKd P t kd = true ∧ pt.C.heap.get q.n = some (.mapI kd (q.ins.map (·.2)) q.ins.length none) ∧ (q.ins ≠ [] → q.kd = kd) ∧ n ∉ q.ins.map (·.2.1) ∧
    pt' = { pt with C := pt.C.put q.n (.mapI kd ((n, v) :: q.ins.map (·.2)) (q.ins.length + 1) none), pn := addIns j kd (i, n, v) pt.pn } := by
  unfold dIns at h
  split at h <;> try (cases h; done)
  rename_i t x k u ha
  split at h <;> try (cases h; done)
  rename_i b kd n v q hx hk hu hq
  split at h <;> try (cases h; done)
  rename_i hkd
  split at h <;> try (cases h; done)
  rename_i hb
  split at h <;> try (cases h; done)
  rename_i ks hks
  split at h <;> try (cases h; done)
  rename_i hlen
  split at h <;> try (cases h; done)
  rename_i hget
  cases h
  subst hb
  obtain ⟨hqm, hqi⟩ := pnI_some hq
  have hc := litOf_get hks
  have hks' : ks = q.ins.map (·.2) ∧ (q.ins ≠ [] → q.kd = kd) := by
    by_cases e : q.ins = []
    · rw [e] at hlen ⊢
      exact ⟨List.eq_nil_of_length_eq_zero hlen, fun h => absurd rfl h⟩
    · obtain ⟨bk, h1, _, h2⟩ := (hw.names q hqm).2
      rw [hc] at h1
      cases h1
      have := h2 e
      injection this with e1 e2 _ _
      exact ⟨e2, fun _ => e1.symm⟩
  obtain ⟨hks1, hks2⟩ := hks'
  subst hks1
  rw [List.length_map] at hc
  refine ⟨t, x, k, u, kd, n, v, q, ha, hx, hk, hu, hqm, hqi, hkd, hc, hks2, ?_, by rw [List.length_map]⟩
  intro hmem
  rw [show q.ins.map (·.2.1) = (q.ins.map (·.2)).map (·.1) by rw [List.map_map]; rfl] at hmem
  have hn := (hw.keys q hqm).1
  rw [show q.ins.map (·.2.1) = (q.ins.map (·.2)).map (·.1) by rw [List.map_map]; rfl] at hn
  obtain ⟨p, hp, rfl⟩ := List.mem_map.1 hmem
  have := (getI_mem (v := p.2) hn).2 hp
  rw [hget] at this
  cases this

theorem dFix_out {i : Nat} {gone : List Nat} {e : Ev} {op : Op} {v : Value} (h : dFix P N C pt i gone e op = some (v, pt')) : ∃ st' : St, (∀ q ∈ pt.pn, q.i ∈ gone → q.ins = []) ∧
    xOp P N C ⟨killN (pt.pn.filter fun q => !(has gone q.i)) pt.C.heap, pt.C.next⟩ e op = some (v, st') ∧ pt.C.next ≤ st'.next ∧
    (∀ r ∈ pt.pr.filter (fun q => !(has gone q.i)), xRd P N ⟨killN (pt.pn.filter fun q => !(has gone q.i)) st'.heap, 0⟩ r.e r.op = some r.v) ∧
    pt' = { pt with C := ⟨backN pt.C.heap (pt.pn.filter fun q => !(has gone q.i)) st'.heap, st'.next⟩, pn := pt.pn.filter fun q => !(has gone q.i), pr := pt.pr.filter fun q => !(has gone q.i), must := i :: (gone ++ pt.must) } := by
  unfold dFix at h
  split at h <;> try (cases h; done)
  rename_i h1
  split at h <;> try (cases h; done)
  rename_i u st' h2
  split at h <;> try (cases h; done)
  rename_i h4
  split at h <;> try (cases h; done)
  rename_i h3
  cases h
  refine ⟨st', fun q hq hg => ?_, h2, h4, fun r hr => ?_, rfl⟩
  · have := List.all_eq_true.1 h1 q hq
    rw [has_iff.2 hg] at this
    simpa using this
  · have := List.all_eq_true.1 h3 r hr
    split at this
    · rename_i u hu
      rw [hu, veqA_ok this]
    · cases this

end

end Go.X
