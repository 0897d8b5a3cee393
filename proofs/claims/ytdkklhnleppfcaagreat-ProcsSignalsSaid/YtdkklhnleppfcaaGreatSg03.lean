/-
  The engine, part 3: operations that read or write memory, or call. Own work.
-/
import Derived.Test.YtdkklhnleppfcaaGreatSg02
import Derived.Lib.UnsafeStr
import Derived.Lib.Builder
import Derived.Laws.Externs
set_option linter.unusedVariables false
set_option linter.unusedSimpArgs false

set_option linter.unusedVariables false
set_option linter.unusedSimpArgs false
namespace Go.V
open Go Go.RowKit

def Enters (P : Program) (f : FuncId) : Prop := ∀ args w, (callFunc f args).run P w = .ok (.enter f args) w

def Ret (P : Program) (f : FuncId) (args : Array Value) (w : World) (K : Value → World → Prop) : Prop :=
  Enters P f ∧ CallsIn Fence.wide 0 P f args w (fun e w' => ∃ v, e = .returned v ∧ K v w')

def Ext (P : Program) (f : FuncId) (args : Array Value) (w : World) (K : Value → World → Prop) : Prop :=
  ∃ v w', (callFunc f args).run P w = .ok (.value v) w' ∧ K v w'

def CallK (P : Program) (f : FuncId) (args : Array Value) (w : World) (K : Value → World → Prop) : Prop :=
  Ret P f args w K ∨ Ext P f args w K

theorem Ret.mono {P : Program} {f : FuncId} {args : Array Value} {w : World} {K K' : Value → World → Prop} (h : Ret P f args w K) (hk : ∀ v w', K v w' → K' v w') : Ret P f args w K' :=
  ⟨h.1, h.2.mono fun e w' ⟨v, he, hv⟩ => ⟨v, he, hk _ _ hv⟩⟩
theorem Ret.call {P : Program} {f : FuncId} {args : Array Value} {w : World} {K : Value → World → Prop} (h : Ret P f args w K) : CallK P f args w K := .inl h
def RoundW (P : Program) (l : Nat) (f : FuncId) (tmps : Array Value) (assign body : Code) (w : World) (K : Value → World → Prop) : Prop :=
  RoundIn Fence.wide 0 P l f tmps assign body w (fun e w' => ∃ v, e = .returned v ∧ K v w')

def Round (P : Program) (l : Nat) (args : Array Value) (w : World) (K : Value → World → Prop) : Prop :=
  ∃ f tmps assign body, (Instr.yield l args).run P w = .ok (.round l f tmps assign body) w ∧ RoundW P l f tmps assign body w K

theorem Round.mono {P : Program} {l : Nat} {args : Array Value} {w : World} {K K' : Value → World → Prop} (h : Round P l args w K) (hk : ∀ v w', K v w' → K' v w') : Round P l args w K' := by
  obtain ⟨f, t, a, b, h1, h2⟩ := h
  exact ⟨f, t, a, b, h1, h2.mono fun e w' ⟨v, he, hv⟩ => ⟨v, he, hk _ _ hv⟩⟩

def OpR (P : Program) (r : Result Next) (K : Value → World → Prop) : Prop :=
  match r with
  | .ok (.value v) w' => K v w'
  | .ok .skip w' => K undef w'
  | .ok (.enter f args) w' => CallsIn Fence.wide 0 P f args w' (fun e w' => ∃ v, e = .returned v ∧ K v w')
  | .ok (.round l f tmps assign body) w' => RoundW P l f tmps assign body w' K
  | _ => False

def vCallV (P : Program) (f : Value) (args : List Value) (w : World) (K : Value → World → Prop) : Prop :=
  match f with
  | .func (.func g) first cap => CallK P g (first.toList ++ args ++ cap.toList).toArray w K
  | .func (.yield l) first _ => Round P l (first.toList ++ args).toArray w K
  | _ => False

def vInvoke (P : Program) (recv : Value) (name : String) (args : List Value) (w : World) (K : Value → World → Prop) : Prop :=
  match recv with
  | .iface t v => match methodOf P t name with
    | some f => CallK P f (v :: args).toArray w K
    | none => False
  | _ => False

def ld1 (w : World) (a : Addr) (K : Value → Prop) : Prop :=
  match w.cell? a with
  | some v => K v
  | none => False

def ldN (w : World) (a : Addr) (n : Nat) (K : List Value → Prop) : Prop :=
  ∃ cs : List Value, cs.length = n ∧ (∀ j v, cs[j]? = some v → w.cell? (a.add j) = some v) ∧ K cs

def vLd (d : LD) (x : Value) (w : World) (K : Value → Prop) : Prop :=
  match d, x with
  | .one, .pointer (some a) => ld1 w a K
  | .agg n, .pointer (some a) => ldN w a n fun cs => K (.agg cs.toArray)
  | _, _ => False

def st1 (w : World) (a : Addr) (v : Value) (K : World → Prop) : Prop :=
  match w.heap[a.block]? with
  | some (.cells c T fr) => a.spot = none ∧ a.off < c.size ∧ (fr.1 = fr.2 ∨ a.off < fr.1 ∨ fr.2 ≤ a.off) ∧ v.oneCell' = true ∧
      K (w.putObj a.block (.cells (c.setIfInBounds a.off v) T fr))
  | _ => False

def stN (w : World) (a : Addr) (cs : List Value) (K : World → Prop) : Prop :=
  match w.heap[a.block]? with
  | some (.cells c T fr) => a.spot = none ∧ a.off + cs.length ≤ c.size ∧ (fr.1 = fr.2 ∨ a.off + cs.length ≤ fr.1 ∨ fr.2 ≤ a.off) ∧ (∀ x ∈ cs, x.oneCell' = true) ∧
      K (w.putObj a.block (.cells (spl c.toList a.off cs).toArray T fr))
  | _ => False

def szOf (P : Program) (t : TypeId) : Option Nat := (P.info? t).map (·.size)

def vSt (n : Option Nat) (x v : Value) (w : World) (K : World → Prop) : Prop :=
  match n, x with
  | some n, .pointer (some a) => match v with
    | .agg cs => cs.size = n ∧ stN w a cs.toList K
    | v => n = 1 ∧ st1 w a v K
  | _, _ => False

def vAlloc (P : Program) (e : TypeId) (w : World) (K : Value → World → Prop) : Prop :=
  match zc P e with
  | some z => K (.pointer (some ⟨w.heap.size, 0, none⟩)) (w.alloc (.cells z e))
  | none => False

def vBox (e : TypeId) (v : Value) (w : World) (K : Value → World → Prop) : Prop :=
  K (.pointer (some ⟨w.heap.size, 0, none⟩)) (w.alloc (.cells v.cells e))

def repZ (z : List Value) (n : Nat) : List Value := (List.replicate n z).flatten

def slPlace (len es i : Nat) : Option (Nat × Nat) := bif Nat.blt i len then some (i * es, es) else none

def vBuildSlice (P : Program) (t : TypeId) (len : Nat) (parts : List (Nat × Value)) (w : World) (K : Value → World → Prop) : Prop :=
  match P.underlying t with
  | some (.slice e) => match P.info? e, zc P e with
    | some i, some z => len * i.size ≤ 2 ^ 24 ∧ z.size = i.size ∧ fillV (slPlace len i.size) (repZ z.toList len) parts fun cs =>
        K (.slice (some ⟨w.heap.size, 0, none⟩) len len) (w.alloc (.cells cs.toArray e))
    | _, _ => False
  | _ => False

def vMakeSlice (P : Program) (t : TypeId) (l c : Value) (w : World) (K : Value → World → Prop) : Prop :=
  match P.underlying t with
  | some (.slice e) => match P.info? e, zc P e, l, c with
    | some i, some z, .int _ l, .int _ c => 0 ≤ l ∧ l ≤ c ∧ c ≤ 140737488355328 ∧ c * i.bytes ≤ 140737488355328 ∧ z.size = i.size ∧
        K (.slice (some ⟨w.heap.size, 0, none⟩) l.toNat c.toNat) (w.alloc (.cells (repZ z.toList c.toNat).toArray e))
    | _, _, _, _ => False
  | _ => False

def lenV (x : Value) : Nat :=
  match x with
  | .slice _ n _ => n
  | .string s => s.size
  | _ => 0

def srcV (es n : Nat) (x : Value) (w : World) (K : List Value → Prop) : Prop :=
  match x with
  | .slice (some a) _ _ => ldN w a (n * es) K
  | .slice none _ _ => n = 0 ∧ K []
  | .string s => es = 1 ∧ K ((s.data.toList.take n).map fun b => .int .u8 b.toNat)
  | _ => False

def stMaybe (w : World) (a : Option Addr) (off : Nat) (cs : List Value) (K : World → Prop) : Prop :=
  match a with
  | some a => stN w (a.add off) cs K
  | none => K w

def srcK (P : Program) (t : TypeId) : Bool :=
  match P.underlying t with
  | some (.slice _) => true
  | some .string => true
  | _ => false

def vAppend (P : Program) (t u : TypeId) (s x : Value) (w : World) (K : Value → World → Prop) : Prop :=
  match P.underlying t with
  | some (.slice e) => match P.info? e, zc P e, s, srcK P u with
    | some i, some z, .slice base n cap, true =>
      z.size = i.size ∧ srcV i.size (lenV x) x w fun news =>
        (n + lenV x ≤ cap → stMaybe w base (n * i.size) news (K (.slice base (n + lenV x) cap))) ∧
        (cap < n + lenV x → (n + lenV x) * i.bytes ≤ 140737488355328 ∧ n + lenV x ≤ 140737488355328 ∧ srcV i.size n s w fun olds =>
          ∀ c, n + lenV x ≤ c → K (.slice (some ⟨w.heap.size, 0, none⟩) (n + lenV x) c) (w.drew.alloc (.cells (olds ++ news ++ repZ z.toList (c - (n + lenV x))).toArray e)))
    | _, _, _, _ => False
  | _ => False

def vCopy (P : Program) (t : TypeId) (d x : Value) (w : World) (K : Value → World → Prop) : Prop :=
  match P.underlying t with
  | some (.slice e) => match P.info? e, d with
    | some i, .slice base n _ => srcV i.size (min (lenV x) n) x w fun cs => stMaybe w base 0 cs (K (.int .i64 (min (lenV x) n : Nat)))
    | _, _ => False
  | _ => False

def vClear (P : Program) (t : TypeId) (x : Value) (w : World) (K : Value → World → Prop) : Prop :=
  match P.underlying t with
  | some (.slice e) => match zc P e, x with
    | some _, .slice none _ _ => K (.tuple #[]) w
    | some z, .slice (some a) n _ => (n = 0 → K (.tuple #[]) w) ∧ (n ≠ 0 → stN w a (repZ z.toList n) (K (.tuple #[])))
    | _, _ => False
  | _ => False

inductive CV where
  | pure | s2b (e : TypeId) | b2s | b2b | toU | fromU (u : TypeId) | bad

def cvk (P : Program) (s d : TypeId) : CV :=
  match P.underlying s, P.underlying d with
  | some .string, some (.slice e) => match P.underlying e with
    | some (.int .u8) => .s2b e
    | _ => .bad
  | some (.slice e), some .string => match P.underlying e with
    | some (.int .u8) => .b2s
    | _ => .bad
  | some (.slice _), some (.slice e) => match Nat.beq s d, P.underlying e with
    | true, some (.int .u8) => .b2b
    | _, _ => .bad
  | some (.pointer t), some .unsafePointer => match P.info? t with
    | some i => bif Nat.beq i.size 0 then .bad else .toU
    | none => .bad
  | some .unsafePointer, some (.pointer u) => match P.info? u with
    | some _ => .fromU u
    | none => .bad
  | some _, some _ => .pure
  | _, _ => .bad

def bytesV (bs : List UInt8) : List Value := bs.map fun b => .int .u8 b.toNat

def vS2B (e : TypeId) (x : Value) (w : World) (K : Value → World → Prop) : Prop :=
  match x with
  | .string s => ∀ c, s.size ≤ c → K (.slice (some ⟨w.heap.size, 0, none⟩) s.size c)
      (w.drew.alloc (.cells (bytesV s.data.toList ++ List.replicate (c - s.size) (Value.int .u8 0)).toArray e (c, c + 1)))
  | _ => False

def vB2S (x : Value) (w : World) (K : Value → Prop) : Prop :=
  match x with
  | .slice none _ _ => K (.string ⟨#[]⟩)
  | .slice (some a) n _ => ∃ bs : List UInt8, bs.length = n ∧ (∀ (j : Nat) (b : UInt8), bs[j]? = some b → w.cell? (a.add j) = some (.int .u8 b.toNat)) ∧ K (.string ⟨bs.toArray⟩)
  | _ => False

def vB2B (x : Value) (w : World) (K : Value → World → Prop) : Prop :=
  match x with
  | .slice (some a) n c => match w.heap[a.block]? with
    | some (.cells cs T (0, 0)) => K (.slice (some a) n c) (w.putObj a.block (.cells cs T (cs.size, cs.size + 1)))
    | _ => False
  | _ => False

def vToU (x : Value) (w : World) (K : Value → Prop) : Prop :=
  match x with
  | .pointer (some a) => match w.heap[a.block]? with
    | some (.cells cs _ _) => a.off < cs.size ∧ K (.pointer (some a))
    | _ => False
  | _ => False

def vFromU (P : Program) (u : TypeId) (x : Value) (w : World) (K : Value → Prop) : Prop :=
  match x with
  | .pointer (some a) => match w.heap[a.block]? with
    | some (.cells cs T _) => liesAt P P.depth T (cs.size / P.cellsOf T) a.off u 1 = true ∧ K (.pointer (some a))
    | _ => False
  | _ => False

def vConvW (P : Program) (k : CV) (d : TK) (x : Value) (w : World) (K : Value → World → Prop) : Prop :=
  match k with
  | .pure => vConv d x fun v => K v w
  | .s2b e => vS2B e x w K
  | .b2s => vB2S x w fun v => K v w
  | .b2b => vB2B x w K
  | .toU => vToU x w fun v => K v w
  | .fromU u => vFromU P u x w fun v => K v w
  | .bad => False

def plainB (w : World) (b : Nat) : Prop := ∃ c T, w.heap[b]? = some (.cells c T (0, 0))

def vPtr (op : BinOp) (x y : Value) (w : World) (K : Value → Prop) : Prop :=
  match x, y with
  | .pointer (some a), .pointer (some b) => (a.block = b.block → vEqB op (a == b) K) ∧ (a.block ≠ b.block → plainB w a.block ∧ plainB w b.block ∧ vEqB op false K)
  | .pointer none, .pointer b => vEqB op b.isNone K
  | .pointer (some _), .pointer none => vEqB op false K
  | _, _ => False

def vBinW (P : Program) (ty : TypeId) (t : TK) (op : BinOp) (x y : Value) (w : World) (K : Value → World → Prop) : Prop :=
  match t with
  | .ptr true => vPtr op x y w fun v => K v w
  | t => vBinP P ty t op x y fun v => K v w

def vUStr (P : Program) (t : TypeId) (p n : Value) (w : World) (K : Value → World → Prop) : Prop :=
  match P.underlying t, p, n with
  | some (.pointer e), .pointer q, .int _ n => szOf P e = some 1 ∧ (n = 0 → K (.string ⟨#[]⟩) w) ∧ (n ≠ 0 → match q with
      | some a => ∃ l : List UInt8, n = l.length ∧ a = ⟨a.block, 0, none⟩ ∧ l.length ≤ 140737488355328 ∧ match w.heap[a.block]? with
        | some (.cells c T fr) => T = e ∧ l.length ≤ c.size ∧ (∀ (j : Nat) (x : UInt8), l[j]? = some x → c[j]? = some (.int .u8 x.toNat)) ∧
          K (.string ⟨l.toArray⟩) (w.putObj a.block (.cells c T (if fr.1 == fr.2 then (0, l.length) else (0, max fr.2 l.length))))
        | _ => False
      | none => False)
  | _, _, _ => False

def mapAt (s : ByteArray) : List (ByteArray × Value) → Option Value
  | [] => none
  | (k, v) :: r => if s = k then some v else mapAt s r

def mapIs (es : Array MapEntry) (ks : List (ByteArray × Value)) : Prop := es.toList.map (fun e => (e.key, e.val)) = ks.map fun p => (Value.string p.1, p.2)

def vMakeMap (r : Option Operand) (w : World) (K : Value → World → Prop) : Prop :=
  match r with
  | none => K (.map (some w.heap.size)) (w.alloc (.map #[] 0))
  | some _ => False

def vMakeMapN (P : Program) (t : TypeId) (x : Value) (w : World) (K : Value → World → Prop) : Prop :=
  match P.underlying t, x with
  | some (.map _ _), .int _ _ => K (.map (some w.heap.size)) (w.alloc (.map #[] 0))
  | _, _ => False

def vLookup (P : Program) (t : TypeId) (m k : Value) (ok : Bool) (w : World) (K : Value → Prop) : Prop :=
  match P.underlying t, m, k with
  | some (.map kt et), .map (some b), .string s => P.underlying kt = some .string ∧ match w.heap[b]? with
    | some (.map es _) => ∃ ks, mapIs es ks ∧ match mapAt s ks with
      | some v => K (if ok then .tuple #[v, .bool true] else v)
      | none => match (P.info? et).bind (·.zero) with
        | some z => K (if ok then .tuple #[z, .bool false] else z)
        | none => False
    | _ => False
  | some (.map kt et), .map (some b), .int kd n => vLookI P kt et b kd n ok w K
  | _, _, _ => False

def vMapUpd (P : Program) (t : TypeId) (m k x : Value) (w : World) (K : World → Prop) : Prop :=
  match P.underlying t, m, k with
  | some (.map kt _), .map (some b), .string s => P.underlying kt = some .string ∧ match w.heap[b]? with
    | some (.map es clock) => (∃ ks, mapIs es ks ∧ mapAt s ks = none) ∧ K (w.putObj b (.map (es.push { key := .string s, val := x, born := clock }) (clock + 1)))
    | _ => False
  | some (.map kt _), .map (some b), .int kd n => vUpdI P kt b kd n x w K
  | _, _, _ => False

def opV (P : Program) (op : Op) (ρ : Env) (w : World) (K : Value → World → Prop) : Prop :=
  match op with
  | .alloc e => vAlloc P e w K
  | .box e x => vBox e (ev ρ x) w K
  | .buildSlice t len parts => vBuildSlice P t len (parts.toList.map fun (i, x) => (i, ev ρ x)) w K
  | .load t x => vLd (ldk P t) (ev ρ x) w fun v => K v w
  | .store t a x => vSt (szOf P t) (ev ρ a) (ev ρ x) w fun w' => K undef w'
  | .convert s d x => vConvW P (cvk P s d) (tk P d) (ev ρ x) w K
  | .binOp op t x y _ => vBinW P t (tkB P t y) op (ev ρ x) (ev ρ y) w K
  | .makeSlice t l c => vMakeSlice P t (ev ρ l) (ev ρ c) w K
  | .makeMap t r => match r with
    | none => vMakeMap none w K
    | some x => vMakeMapN P t (ev ρ x) w K
  | .range t x => vRange P t (ev ρ x) w K
  | .next x isS => vNext (ev ρ x) isS w K
  | .lookup t m k ok => vLookup P t (ev ρ m) (ev ρ k) ok w fun v => K v w
  | .mapUpdate t m k x => vMapUpd P t (ev ρ m) (ev ρ k) (ev ρ x) w fun w' => K undef w'
  | .insert t m k x => vMapUpd P t (ev ρ m) (ev ρ k) (ev ρ x) w fun w' => K undef w'
  | .mapEntry t m k => vEntry P t (ev ρ m) (ev ρ k) w K
  | .entryStore t m s x => vEntrySt (ev ρ m) (ev ρ s) (ev ρ x) w fun w' => K undef w'
  | .call { callee := .value f, args := args, argTypes := _ } => vCallV P (ev ρ f) (args.toList.map (ev ρ)) w K
  | .call { callee := .invoke recv name, args := args, argTypes := _ } => vInvoke P (ev ρ recv) name (args.toList.map (ev ρ)) w K
  | .call { callee := .builtin .append, args := args, argTypes := ts } => match args.toList, ts.toList with
    | [s, x], [t, u] => vAppend P t u (ev ρ s) (ev ρ x) w K
    | _, _ => False
  | .call { callee := .builtin .copy, args := args, argTypes := ts } => match args.toList, ts.toList with
    | [s, x], [t, _] => vCopy P t (ev ρ s) (ev ρ x) w K
    | _, _ => False
  | .call { callee := .builtin .clear, args := args, argTypes := ts } => match args.toList, ts.toList with
    | [x], [t] => vClear P t (ev ρ x) w K
    | _, _ => False
  | .call { callee := .builtin .unsafeString, args := args, argTypes := ts } => match args.toList, ts.toList with
    | [p, n], [t, _] => vUStr P t (ev ρ p) (ev ρ n) w K
    | _, _ => False
  | .call { callee := .builtin .delete, args := args, argTypes := ts } => match args.toList, ts.toList with
    | [m, k], [t, _] => vDel P t (ev ρ m) (ev ρ k) w K
    | _, _ => False
  | .call { callee := .builtin .len, args := args, argTypes := ts } => match args.toList, ts.toList with
    | [x], [t] => match P.underlying t with
      | some (.map _ _) => vLenM (ev ρ x) w K
      | _ => vLen (tk P t) (ev ρ x) fun v => K v w
    | _, _ => False
  | op => pureOp P op ρ fun v => K v w

theorem run_load1 {P : Program} {w : World} {a : Addr} {v : Value} (h : w.cell? a = some v) : (load a).run P w = .ok v w := by
  simp [load, Sem.run, h]

theorem vLd_out {P : Program} {t : TypeId} {x : Value} {w : World} {K : Value → Prop} (h : vLd (ldk P t) x w K) :
    ∃ v, K v ∧ (Instr.loadAt t x).run P w = .ok v w := by
  unfold vLd at h
  split at h
  · rename_i a hd
    unfold ld1 at h
    split at h
    · rename_i v hv
      refine ⟨v, h, ?_⟩
      unfold Instr.loadAt
      rw [run_bind_ok (a := a) (w' := w) rfl]
      unfold loadVar
      rw [run_bind_ok (isAgg_one hd w)]
      exact run_load1 hv
    · exact h.elim
  · rename_i n a hd
    obtain ⟨cs, hl, hc, hk⟩ := h
    obtain ⟨ha, i, hi, hs⟩ := isAgg_agg hd
    refine ⟨_, hk, ?_⟩
    unfold Instr.loadAt
    rw [run_bind_ok (a := a) (w' := w) rfl]
    unfold loadVar
    rw [run_bind_ok (ha w)]
    simp only [if_true]
    rw [run_bind_ok (run_size hi w), hs, ← hl, run_bind_ok (run_loadCells_list (P := P) w a cs hc)]
    rfl
  · exact h.elim

theorem getD_cell {w : World} {b o : Nat} {c : Array Value} {T : TypeId} {fr : Nat × Nat} (h : w.heap[b]? = some (.cells c T fr)) : w.cell? ⟨b, o, none⟩ = c[o]? := by
  simp [World.cell?, h]

theorem putObj_same {w : World} {b : Nat} {o : Obj} (h : w.heap[b]? = some o) : w.putObj b o = w := by
  unfold World.putObj
  have : w.heap.setIfInBounds b o = w.heap := by
    apply Array.ext_getElem?
    intro i
    rw [Array.getElem?_setIfInBounds]
    split
    · rename_i e; subst e
      have hlt := (Array.getElem?_eq_some_iff.1 h).1
      simp [hlt, ← h]
    · rfl
  rw [this]

theorem putObj_putObj (w : World) (b : Nat) (o o' : Obj) : (w.putObj b o).putObj b o' = w.putObj b o' := by
  simp [World.putObj]

theorem setCell_put {w : World} {b o : Nat} {c : Array Value} {T : TypeId} {fr : Nat × Nat} {v : Value} (h : w.heap[b]? = some (.cells c T fr)) :
    w.setCell ⟨b, o, none⟩ v = w.putObj b (.cells (c.setIfInBounds o v) T fr) := by
  unfold World.setCell World.putObj
  congr 1
  apply Array.ext_getElem?
  intro i
  rw [Array.getElem?_modify, Array.getElem?_setIfInBounds]
  split
  · rename_i e; subst e
    obtain ⟨hlt, he⟩ := Array.getElem?_eq_some_iff.1 h
    simp [hlt, he]
  · rfl

theorem frozen_out {w : World} {b o : Nat} {c : Array Value} {T : TypeId} {fr : Nat × Nat} (h : w.heap[b]? = some (.cells c T fr)) (hf : fr.1 = fr.2 ∨ o < fr.1 ∨ fr.2 ≤ o) :
    w.frozen? ⟨b, o, none⟩ = false := by
  obtain ⟨lo, hi⟩ := fr
  simp [World.frozen?, h]
  simp at hf
  omega

theorem run_store1 {P : Program} {w : World} {b o : Nat} {c : Array Value} {T : TypeId} {fr : Nat × Nat} {v : Value} (h : w.heap[b]? = some (.cells c T fr)) (ho : o < c.size)
    (hf : fr.1 = fr.2 ∨ o < fr.1 ∨ fr.2 ≤ o) (hv : v.oneCell' = true) : (store ⟨b, o, none⟩ v).run P w = .ok () (w.putObj b (.cells (c.setIfInBounds o v) T fr)) := by
  rw [run_store P w _ v _ hv, getD_cell h, frozen_out h hf]
  simp [ho, setCell_put h]

theorem add_off (b o n : Nat) : (⟨b, o, none⟩ : Addr).add n = ⟨b, o + n, none⟩ := by unfold Addr.add; split <;> simp_all

theorem spl_cons (l : List Value) (k : Nat) (v : Value) (rest : List Value) (hk : k + (rest.length + 1) ≤ l.length) :
    spl (l.set k v) (k + 1) rest = spl l k (v :: rest) := by
  unfold spl
  have e := list_seg_step l k v rest hk
  simp only [List.length_cons]
  simpa using e

theorem run_storeCells_put {P : Program} {b o : Nat} {T : TypeId} {fr : Nat × Nat} : ∀ (vs : List Value) (i : Nat) (c : Array Value) (w : World), w.heap[b]? = some (.cells c T fr) →
    o + i + vs.length ≤ c.size → (fr.1 = fr.2 ∨ o + i + vs.length ≤ fr.1 ∨ fr.2 ≤ o + i) → (∀ v ∈ vs, v.oneCell' = true) →
    (storeCells ⟨b, o, none⟩ vs i).run P w = .ok () (w.putObj b (.cells (spl c.toList (o + i) vs).toArray T fr))
  | [], i, c, w, h, hl, hf, h1 => by
    have : spl c.toList (o + i) [] = c.toList := by simp [spl]
    rw [this, Array.toArray_toList, putObj_same h]; rfl
  | v :: r, i, c, w, h, hl, hf, h1 => by
    simp only [List.length_cons] at hl hf
    have hst := run_store1 (P := P) (v := v) h (o := o + i) (by omega) (by omega) (h1 v (by simp))
    have hlt := (Array.getElem?_eq_some_iff.1 h).1
    unfold storeCells
    rw [add_off, run_bind_ok hst]
    rw [run_storeCells_put r (i + 1) (c.setIfInBounds (o + i) v) _ (World.putObj_heap_same hlt) (by simp; omega) (by omega) (fun x hx => h1 x (by simp [hx]))]
    rw [putObj_putObj]
    congr 4
    rw [Array.toList_setIfInBounds, show o + (i + 1) = o + i + 1 from by omega]
    exact spl_cons _ _ _ _ (by simp; omega)

theorem addr_eta {a : Addr} (h : a.spot = none) : a = ⟨a.block, a.off, none⟩ := by cases a; simp_all

theorem stN_out {P : Program} {w : World} {a : Addr} {cs : List Value} {K : World → Prop} (h : stN w a cs K) : ∃ w', K w' ∧ (storeCells a cs).run P w = .ok () w' := by
  unfold stN at h
  split at h
  · rename_i c T fr hb
    obtain ⟨hs, h1, h2, h3, hk⟩ := h
    refine ⟨_, hk, ?_⟩
    rw [addr_eta hs]
    have := run_storeCells_put (P := P) (o := a.off) cs 0 c w hb (by simpa using h1) (by simpa using h2) h3
    simpa using this
  · exact h.elim

theorem st1_out {P : Program} {w : World} {a : Addr} {v : Value} {K : World → Prop} (h : st1 w a v K) : v.oneCell' = true ∧ ∃ w', K w' ∧ (storeCells a [v]).run P w = .ok () w' := by
  unfold st1 at h
  split at h
  · rename_i c T fr hb
    obtain ⟨hs, h1, h2, h3, hk⟩ := h
    refine ⟨h3, _, hk, ?_⟩
    rw [addr_eta hs]
    unfold storeCells
    rw [add_off, run_bind_ok (run_store1 (P := P) hb (o := a.off + 0) (by omega) (by omega) h3)]
    rfl
  · exact h.elim

theorem cells_one {v : Value} (h : v.oneCell' = true) : v.cells = #[v] := by
  cases v <;> first | rfl | (simp [Value.oneCell'] at h)

theorem vSt_out {P : Program} {t : TypeId} {x v : Value} {w : World} {K : World → Prop} (h : vSt (szOf P t) x v w K) :
    ∃ w', K w' ∧ (Instr.storeAt t x v).run P w = .ok () w' := by
  unfold vSt at h
  split at h
  · rename_i n a hn
    unfold szOf at hn
    cases hi : P.info? t with
    | none => simp [hi] at hn
    | some i =>
    simp [hi] at hn
    subst hn
    split at h
    · rename_i cs
      obtain ⟨h1, h2⟩ := h
      obtain ⟨w', hk, hr⟩ := stN_out (P := P) h2
      refine ⟨w', hk, ?_⟩
      unfold Instr.storeAt
      rw [run_bind_ok (a := a) (w' := w) rfl]
      unfold storeVar
      rw [run_bind_ok (run_size hi w)]
      simp [Value.cells, h1, hr]
    · obtain ⟨h1, h2⟩ := h
      obtain ⟨hone, w', hk, hr⟩ := st1_out (P := P) h2
      refine ⟨w', hk, ?_⟩
      unfold Instr.storeAt
      rw [run_bind_ok (a := a) (w' := w) rfl]
      unfold storeVar
      rw [run_bind_ok (run_size hi w)]
      simp [cells_one hone, h1, hr]
  · exact h.elim

theorem run_zc {P : Program} {t : TypeId} {z : Array Value} (h : zc P t = some z) : ∃ v, v.cells = z ∧ ∀ w, (zeroValue t).run P w = .ok v w := by
  obtain ⟨_, v, _, _, hv, hr⟩ := zc_out h; exact ⟨v, hv, hr⟩

theorem vAlloc_out {P : Program} {e : TypeId} {w : World} {K : Value → World → Prop} (h : vAlloc P e w K) :
    ∃ v w', K v w' ∧ (Instr.alloc e true (.tuple #[])).run P w = .ok v w' := by
  unfold vAlloc at h
  split at h
  · rename_i z hz
    obtain ⟨v, hv, hr⟩ := run_zc hz
    refine ⟨_, _, h, ?_⟩
    unfold Instr.alloc
    rw [run_bind_ok (hr w)]
    simp only [newVar, newRow, hv]
    rfl
  · exact h.elim

theorem rep_eq (z : Array Value) : ∀ (n : Nat), (Array.range (n * z.size)).map (fun i => z[i % z.size]!) = (repZ z.toList n).toArray := by
  intro n
  apply Array.toList_inj.1
  simp only [Array.toList_map, Array.toList_range]
  induction n with
  | zero => simp [repZ]
  | succ n ih =>
    have hr : repZ z.toList (n + 1) = repZ z.toList n ++ z.toList := by
      simp [repZ, List.replicate_succ']
    rw [hr, Nat.succ_mul, List.range_add, List.map_append, ih]
    congr 1
    rw [List.map_map]
    apply List.ext_getElem
    · simp
    · intro i h1 h2
      simp only [List.length_map, List.length_range] at h1
      simp only [List.getElem_map, List.getElem_range, Function.comp]
      rw [Nat.mul_comm n, Nat.mul_add_mod, Nat.mod_eq_of_lt h1]
      simp [h1]

theorem repZ_length (z : List Value) (n : Nat) : (repZ z n).length = n * z.length := by simp [repZ]

theorem vBuildSlice_out {P : Program} {t : TypeId} {len : Nat} {parts : Array (Nat × Operand)} {ρ : Env} {w : World} {K : Value → World → Prop}
    (h : vBuildSlice P t len (parts.toList.map fun (i, x) => (i, ev ρ x)) w K) :
    ∃ v w', K v w' ∧ (Instr.buildSlice t len (parts.map fun (i, x) => (i, ev ρ x))).run P w = .ok v w' := by
  unfold vBuildSlice at h
  split at h
  · rename_i e he
    split at h
    · rename_i i z hi hz
      obtain ⟨h1, h2, h3⟩ := h
      obtain ⟨v, hv, hr⟩ := run_zc hz
      obtain ⟨cs, hk, hf⟩ := fillV_out (place' := fun j => some (j * i.size, i.size)) (by
        intro j x hx
        unfold slPlace at hx
        cases hb : Nat.blt j len <;> rw [hb] at hx <;> simp at hx
        rw [hx]) _ _ (by
        intro j off size hx
        unfold slPlace at hx
        cases hb : Nat.blt j len <;> rw [hb] at hx <;> simp at hx
        obtain ⟨rfl, rfl⟩ := hx
        have hj : j < len := by simpa [Nat.blt_eq] using hb
        have h4 : (j + 1) * i.size ≤ len * i.size := Nat.mul_le_mul_right _ hj
        rw [Nat.succ_mul] at h4
        rw [repZ_length]; simp [h2]; omega) h3
      refine ⟨_, _, hk, ?_⟩
      unfold Instr.buildSlice
      rw [run_bind_ok (run_und he w)]
      simp only []
      rw [run_bind_ok (run_size hi w)]
      have hparts : (parts.map fun (i, x) => (i, ev ρ x)).toList = parts.toList.map fun (i, x) => (i, ev ρ x) := by simp
      rw [if_neg (by omega)]
      by_cases h0 : len * i.size = 0
      · have hrep : repZ z.toList len = [] := List.eq_nil_of_length_eq_zero (by rw [repZ_length]; simp [h2, h0])
        rw [hrep] at hf
        simp only [h0, if_true]
        rw [run_bind_ok (a := #[]) (w' := w) rfl]
        have hz0 : (Array.range 0).map (fun x => (#[] : Array Value)[x % (#[] : Array Value).size]!) = ([] : List Value).toArray := by
          apply Array.toList_inj.1; simp
        rw [hz0, hparts, hf]
        rfl
      · have hrep := rep_eq z len
        rw [h2] at hrep
        simp only [h0, if_false]
        rw [run_bind_ok (hr w)]
        rw [run_bind_ok (a := z) (w' := w) (by rw [hv]; rfl)]
        rw [h2, hrep, hparts, hf]
        rfl
    · exact h.elim
  · exact h.elim

theorem wrap_i64 {x : Int} (h0 : -9223372036854775808 ≤ x) (h1 : x < 9223372036854775808) : IntKind.i64.wrap x = x := by
  simp [IntKind.wrap, IntKind.bits, IntKind.signed]
  split <;> omega

theorem vMakeSlice_out {P : Program} {t : TypeId} {l c : Value} {w : World} {K : Value → World → Prop} (h : vMakeSlice P t l c w K) :
    ∃ v w', K v w' ∧ (Instr.makeSlice t l c).run P w = .ok v w' := by
  unfold vMakeSlice at h
  split at h
  · rename_i e he
    split at h
    · rename_i i z _ l _ c hi hz
      obtain ⟨h1, h2, h3, h4, h5, hk⟩ := h
      obtain ⟨v, hv, hr⟩ := run_zc hz
      refine ⟨_, _, hk, ?_⟩
      unfold Instr.makeSlice
      rw [run_bind_ok (run_und he w)]
      simp only []
      rw [run_bind_ok (a := l) (w' := w) (by simp [asInt, asIntOf, Sem.run_pure])]
      rw [run_bind_ok (a := c) (w' := w) (by simp [asInt, asIntOf, Sem.run_pure])]
      rw [run_bind_ok (run_ti hi w)]
      rw [wrap_i64 (x := l) (by omega) (by omega), wrap_i64 (x := c) (by omega) (by omega)]
      have hnot : ¬ ((i.bytes : Int) * c > 2 ^ 48) := by rw [Int.mul_comm]; omega
      have hc : (decide (c < 0) || decide ((i.bytes : Int) * c > 2 ^ 48) || decide (l < 0) || decide (l > c)) = false := by
        simp; omega
      simp only [hc]
      have hask : (askRoom (c.toNat * i.bytes)).run P w = .ok () w := by
        unfold askRoom roomBytes
        rw [if_neg]
        · rfl
        · have : ((c.toNat * i.bytes : Nat) : Int) = c * i.bytes := by rw [Int.natCast_mul, Int.toNat_of_nonneg (by omega)]
          omega
      simp only [Bool.false_eq_true, if_false]
      rw [run_bind_ok hask, run_bind_ok (run_size hi w)]
      have hrep := rep_eq z c.toNat
      rw [h5] at hrep
      have hr0 : (Array.range 0).map (fun x => (#[] : Array Value)[x % (#[] : Array Value).size]!) = #[] := by
        apply Array.toList_inj.1; simp
      by_cases h0 : c.toNat * i.size = 0
      · have hrep0 : repZ z.toList c.toNat = [] := List.eq_nil_of_length_eq_zero (by rw [repZ_length]; simp [h5, h0])
        rw [hrep0]
        simp only [h0, if_true]
        rw [run_bind_ok (a := #[]) (w' := w) rfl, hr0]
        rfl
      · simp only [h0, if_false]
        simp only [Sem.run_bind, hr w, Sem.run_pure, Result.andThen, hv, newRow, run_newObj_alloc]
        rw [h5, hrep]
    · exact h.elim
  · exact h.elim



theorem run_ldN {P : Program} {w : World} {a : Addr} {n : Nat} {K : List Value → Prop} (h : ldN w a n K) : ∃ cs, K cs ∧ cs.length = n ∧ ∀ w1 : World, w1.heap = w.heap → (loadCells a n).run P w1 = .ok cs.toArray w1 := by
  obtain ⟨cs, hl, hc, hk⟩ := h
  refine ⟨cs, hk, hl, fun w1 hw => ?_⟩
  rw [← hl]
  exact run_loadCells_list (P := P) w1 a cs (fun j v hv => by rw [← hc j v hv]; unfold World.cell?; rw [hw])

theorem srcV_out {P : Program} {es n : Nat} {x : Value} {w : World} {K : List Value → Prop} (h : srcV es n x w K) :
    ∃ cs, K cs ∧ ∀ w1 : World, w1.heap = w.heap → (Builtin.firstCells es n x).run P w1 = .ok cs.toArray w1 := by
  unfold srcV at h
  split at h
  · obtain ⟨cs, hk, _, hr⟩ := run_ldN (P := P) h
    exact ⟨cs, hk, hr⟩
  · obtain ⟨rfl, hk⟩ := h
    exact ⟨[], hk, fun w1 _ => rfl⟩
  · rename_i s
    obtain ⟨rfl, hk⟩ := h
    refine ⟨_, hk, fun w1 _ => ?_⟩
    unfold Builtin.firstCells
    rw [Sem.run_pure]
    congr 1
    apply Array.toList_inj.1
    simp only [Array.toList_map]
    congr 1
    simp [ByteArray.extract, ByteArray.copySlice, List.extract_eq_take_drop]
  · exact h.elim

theorem stMaybe_out {P : Program} {w : World} {a : Option Addr} {off : Nat} {cs : List Value} {K : World → Prop} (h : stMaybe w a off cs K) :
    ∃ w', K w' ∧ ((a = none ∧ w' = w) ∨ ∃ b, a = some b ∧ (storeCells (b.add off) cs).run P w = .ok () w') := by
  unfold stMaybe at h
  split at h
  · obtain ⟨w', hk, hr⟩ := stN_out (P := P) h
    exact ⟨w', hk, .inr ⟨_, rfl, hr⟩⟩
  · exact ⟨w, h, .inl ⟨rfl, rfl⟩⟩

theorem srcK_out {P : Program} {t : TypeId} (h : srcK P t = true) : (∃ e, P.underlying t = some (.slice e)) ∨ P.underlying t = some .string := by
  unfold srcK at h
  split at h
  · exact .inl ⟨_, by assumption⟩
  · exact .inr (by assumption)
  · cases h

theorem cap_cut (need t : Nat) (old : Nat) (e : TypeId) : need ≤ (Question.appendCap need old e).cut t := by simp [Question.cut]

theorem lenOf_run {P : Program} {x : Value} {w : World} (h : (∃ a n c, x = .slice a n c) ∨ ∃ s, x = .string s) : (Builtin.lenOf x).run P w = .ok (lenV x) w := by
  rcases h with ⟨a, n, c, rfl⟩ | ⟨s, rfl⟩ <;> rfl

theorem srcV_shape {es n : Nat} {x : Value} {w : World} {K : List Value → Prop} (h : srcV es n x w K) : (∃ a n c, x = .slice a n c) ∨ ∃ s, x = .string s := by
  unfold srcV at h
  split at h
  · exact .inl ⟨_, _, _, rfl⟩
  · exact .inl ⟨_, _, _, rfl⟩
  · exact .inr ⟨_, rfl⟩
  · exact h.elim

theorem askRoom_run {P : Program} (n : Nat) (w : World) : (askRoom n).run P w = .ok () w := by
  unfold askRoom
  split <;> rfl

set_option maxHeartbeats 1000000 in
theorem vAppend_out {P : Program} {t u ty : TypeId} {s x : Value} {w : World} {K : Value → World → Prop} (h : vAppend P t u s x w K) :
    ∃ v w', K v w' ∧ (Builtin.append_ #[t, u] ty #[s, x]).run P w = .ok v w' := by
  unfold vAppend at h
  split at h
  · rename_i e he
    split at h
    · rename_i i z base n cap hi hz hu
      obtain ⟨h1, h2⟩ := h
      obtain ⟨d, hd, hdk⟩ : ∃ d, P.underlying u = some d ∧ ((∃ e', d = .slice e') ∨ d = .string) := by
        rcases srcK_out hu with ⟨e', h'⟩ | h'
        · exact ⟨_, h', .inl ⟨_, rfl⟩⟩
        · exact ⟨_, h', .inr rfl⟩
      obtain ⟨zv, hzv, hzr⟩ := run_zc hz
      have hlen := lenOf_run (P := P) (w := w) (srcV_shape h2)
      obtain ⟨news, ⟨hroom, hgrow⟩, hnews⟩ := srcV_out (P := P) h2
      by_cases hc : n + lenV x ≤ cap
      · obtain ⟨w', hk, hr⟩ := stMaybe_out (P := P) (hroom hc)
        refine ⟨_, w', hk, ?_⟩
        rcases hr with ⟨rfl, e1⟩ | ⟨b, rfl, hr⟩
        · rw [e1]; rcases hdk with ⟨e', rfl⟩ | rfl <;> simp [Builtin.append_, Sem.run_bind, run_und he, run_und hd, run_size hi, run_ti hi, hlen, hc, hnews w rfl, Result.andThen, Sem.run_pure]
        · rcases hdk with ⟨e', rfl⟩ | rfl <;> simp [Builtin.append_, Sem.run_bind, run_und he, run_und hd, run_size hi, run_ti hi, hlen, hc, hnews w rfl, hr, Result.andThen, Sem.run_pure]
      · obtain ⟨hb1, hb2, hsrc⟩ := hgrow (by omega)
        obtain ⟨olds, hall, holds⟩ := srcV_out (P := P) hsrc
        have hcn := cap_cut (n + lenV x) (w.tape w.drawn (.appendCap (n + lenV x) cap e)) cap e
        have hall' := hall _ hcn
        generalize hcd : (Question.appendCap (n + lenV x) cap e).cut (w.tape w.drawn (.appendCap (n + lenV x) cap e)) = c at *
        refine ⟨_, _, hall', ?_⟩
        have h63 : ¬ (9223372036854775807 < ((n : Int) + (lenV x : Int))) := by omega
        have hns := growslice_fits (need := n + lenV x) (old := cap) (bytes := i.bytes) (by omega) (by omega)
        have h48 : ¬ (281474976710656 < Builtin.nextslicecap (n + lenV x) cap * i.bytes) := by omega
        have hzz : Builtin.zeroCells z (c - (n + lenV x)) = (repZ z.toList (c - (n + lenV x))).toArray := by
          unfold Builtin.zeroCells
          exact rep_eq z _
        rcases hdk with ⟨e', rfl⟩ | rfl <;> simp [Builtin.append_, Sem.run_bind, run_und he, run_und hd, run_size hi, run_ti hi, hlen, hc, h63, h48, Question.forced, hcd, askRoom_run, holds w.drew rfl, hnews w.drew rfl, hzr, hzv, hzz, newRow, Result.andThen, Sem.run_pure, IntKind.max, IntKind.signed, IntKind.bits]
    · exact h.elim
  · exact h.elim

theorem vCopy_out {P : Program} {t u ty : TypeId} {d x : Value} {w : World} {K : Value → World → Prop} (h : vCopy P t d x w K) :
    ∃ v w', K v w' ∧ (Builtin.copy_ #[t, u] ty #[d, x]).run P w = .ok v w' := by
  unfold vCopy at h
  split at h
  · rename_i e he
    split at h
    · rename_i i base n cap hi
      have hlen := lenOf_run (P := P) (w := w) (srcV_shape h)
      obtain ⟨cs, hst, hcs⟩ := srcV_out (P := P) h
      obtain ⟨w', hk, hr⟩ := stMaybe_out (P := P) hst
      refine ⟨_, w', hk, ?_⟩
      have hmin : Nat.min (lenV x) n = min (lenV x) n := rfl
      rcases hr with ⟨rfl, rfl⟩ | ⟨b, rfl, hr⟩
      · simp [Builtin.copy_, Sem.run_bind, run_und he, run_size hi, hlen, hmin, hcs _ rfl, Result.andThen, Sem.run_pure, goInt]
      · have e0 : b.add 0 = b := by simp [Addr.add]
        rw [e0] at hr
        simp [Builtin.copy_, Sem.run_bind, run_und he, run_size hi, hlen, hmin, hcs w rfl, hr, Result.andThen, Sem.run_pure, goInt]
    · exact h.elim
  · exact h.elim

theorem vClear_out {P : Program} {t ty : TypeId} {x : Value} {w : World} {K : Value → World → Prop} (h : vClear P t x w K) :
    ∃ v w', K v w' ∧ (Builtin.clear_ #[t] ty #[x]).run P w = .ok v w' := by
  unfold vClear at h
  split at h
  · rename_i e he
    split at h
    · refine ⟨_, w, h, ?_⟩
      simp [Builtin.clear_, Sem.run_bind, run_und he, Result.andThen, Sem.run_pure]
    · rename_i z a n c hz
      obtain ⟨h0, h1⟩ := h
      obtain ⟨zv, hzv, hzr⟩ := run_zc hz
      by_cases hn : n = 0
      · subst hn
        refine ⟨_, w, h0 rfl, ?_⟩
        simp [Builtin.clear_, Sem.run_bind, run_und he, Result.andThen, Sem.run_pure]
      · obtain ⟨w', hk, hr⟩ := stN_out (P := P) (h1 hn)
        refine ⟨_, w', hk, ?_⟩
        have hzz : Builtin.zeroCells z n = (repZ z.toList n).toArray := by
          unfold Builtin.zeroCells
          exact rep_eq z _
        obtain ⟨m, rfl⟩ : ∃ m, n = m + 1 := ⟨n - 1, by omega⟩
        simp [Builtin.clear_, Sem.run_bind, run_und he, hzr, hzv, hzz, hr, Result.andThen, Sem.run_pure]
    · exact h.elim
  · exact h.elim

theorem run_freeze {P : Program} (a : Addr) (n : Nat) (w : World) : (freeze a n).run P w = .ok () (w.freeze a n) := rfl

theorem run_shape_cells {P : Program} {w : World} {b : Nat} {c : Array Value} {T : TypeId} {fr : Nat × Nat} (h : w.heap[b]? = some (.cells c T fr)) :
    (shape b).run P w = .ok (some (T, c.size)) w := by
  simp [shape, Sem.run, World.shape?, h]

theorem freeze_put {w : World} {b o : Nat} {c : Array Value} {T : TypeId} (h : w.heap[b]? = some (.cells c T (0, 0))) :
    w.freeze ⟨b, o, none⟩ 1 = w.putObj b (.cells c T (o, o + 1)) := by
  unfold World.freeze World.putObj
  rw [if_neg (by simp)]
  congr 1
  apply Array.ext_getElem?
  intro i
  rw [Array.getElem?_modify, Array.getElem?_setIfInBounds]
  split
  · rename_i e; subst e
    obtain ⟨hlt, he⟩ := Array.getElem?_eq_some_iff.1 h
    simp [hlt, he]
  · rfl

theorem mark_run {P : Program} {w : World} {b o : Nat} {s : Option Nat} {c : Array Value} {T : TypeId} (h : w.heap[b]? = some (.cells c T (0, 0))) :
    (markStringish ⟨b, o, s⟩).run P w = .ok () (w.putObj b (.cells c T (c.size, c.size + 1))) := by
  unfold markStringish
  rw [run_bind_ok (run_shape_cells h)]
  simp only []
  rw [run_freeze, freeze_put h]

theorem alloc_put (w : World) (o o' : Obj) : (w.alloc o).putObj w.heap.size o' = w.alloc o' := by
  simp only [World.alloc, World.putObj]
  congr 1
  apply Array.ext_getElem?
  intro i
  rw [Array.getElem?_setIfInBounds, Array.getElem?_push, Array.getElem?_push]
  split
  · rename_i e; subst e; simp
  · rename_i e
    rw [if_neg (Ne.symm e), if_neg (Ne.symm e)]

theorem vS2B_out {P : Program} {s d e : TypeId} {x : Value} {w : World} {K : Value → World → Prop} (hs : P.underlying s = some .string) (hd : P.underlying d = some (.slice e)) (he : P.underlying e = some (.int .u8))
    (h : vS2B e x w K) : ∃ v w', K v w' ∧ (convert s d x).run P w = .ok v w' := by
  unfold vS2B at h
  split at h
  · rename_i s
    have hcn := cap_cut s.size (w.tape w.drawn (.appendCap s.size 0 e)) 0 e
    have hall' := h _ hcn
    generalize hcd : (Question.appendCap s.size 0 e).cut (w.tape w.drawn (.appendCap s.size 0 e)) = c at *
    refine ⟨_, _, hall', ?_⟩
    unfold convert
    rw [run_bind_ok (run_und hs w), run_bind_ok (run_und hd w)]
    simp only []
    rw [run_bind_ok (run_und he w)]
    simp only [Conv.stringToBytes]
    rw [run_bind_ok (a := c) (w' := w.drew) (by rw [run_choose_drew, if_neg (by exact Bool.false_ne_true), hcd])]
    have e1 : (s.data.map (fun b => Value.int .u8 (b.toNat : Int)) ++ Array.replicate (c - s.size) (Value.int .u8 0)) = (bytesV s.data.toList ++ List.replicate (c - s.size) (Value.int .u8 0)).toArray := by
      apply Array.toList_inj.1
      simp [bytesV]
    rw [e1]
    generalize hB : (bytesV s.data.toList ++ List.replicate (c - s.size) (Value.int .u8 0)).toArray = B
    have hBs : B.size = c := by
      rw [← hB]
      have : s.data.toList.length = s.size := by rw [Array.length_toList]; rfl
      simp only [List.size_toArray, List.length_append, bytesV, List.length_map, List.length_replicate, this]
      omega
    simp only [newRow]
    have hn : (newObj (.cells B e)).run P w.drew = .ok w.heap.size (w.drew.alloc (.cells B e)) := run_newObj_alloc P w.drew _
    have hnew : (w.drew.alloc (.cells B e)).heap[w.heap.size]? = some (.cells B e) := World.alloc_heap_new w.drew _
    rw [run_bind_ok (a := ⟨w.heap.size, 0, none⟩) (w' := w.drew.alloc (.cells B e)) (by rw [run_bind_ok hn]; rfl)]
    rw [run_bind_ok (mark_run hnew)]
    have := alloc_put w.drew (.cells B e) (.cells B e (B.size, B.size + 1))
    rw [show w.drew.heap.size = w.heap.size from rfl] at this
    rw [this, hBs]
    rfl
  · exact h.elim

theorem bytes_fold (bs : List UInt8) : ∀ (r : ByteArray), (bs.map fun b => (b.toNat : Int)).foldl (fun r n => r.push (UInt8.ofNat n.toNat)) r = ⟨(r.data.toList ++ bs).toArray⟩ := by
  induction bs with
  | nil => intro r; simp
  | cons b bs ih =>
    intro r
    simp only [List.map_cons, List.foldl_cons]
    rw [ih]
    simp [ByteArray.push]

theorem vB2S_out {P : Program} {s d e : TypeId} {x : Value} {w : World} {K : Value → Prop} (hs : P.underlying s = some (.slice e)) (hd : P.underlying d = some .string) (he : P.underlying e = some (.int .u8))
    (h : vB2S x w K) : ∃ v, K v ∧ (convert s d x).run P w = .ok v w := by
  have pre : ∀ {v : Value}, (Conv.bytesToString x).run P w = .ok v w → (convert s d x).run P w = .ok v w := by
    intro v hv
    unfold vB2S at h
    unfold convert
    rw [run_bind_ok (run_und hs w), run_bind_ok (run_und hd w)]
    split at h <;> first
      | exact h.elim
      | (simp only []; rw [run_bind_ok (run_und he w)]; exact hv)
  unfold vB2S at h
  split at h
  · exact ⟨_, h, pre rfl⟩
  · rename_i a n c
    obtain ⟨bs, hl, hc, hk⟩ := h
    refine ⟨_, hk, pre ?_⟩
    have hload : (loadCells a n).run P w = .ok ((bs.map fun b => (b.toNat : Int)).map (Value.int .u8)).toArray w := by
      have := run_loadCells_list (P := P) w a (bytesV bs) (fun j v hv => by
        unfold bytesV at hv
        rw [List.getElem?_map] at hv
        cases hb : bs[j]? with
        | none => rw [hb] at hv; cases hv
        | some b => rw [hb] at hv; cases hv; exact hc j b hb)
      rw [show (bytesV bs).length = n from by simp [bytesV, hl]] at this
      rw [this]
      simp [bytesV]
    rw [run_bytesToString w a n c _ hload, bytes_fold]
    rfl
  · exact h.elim

theorem vB2B_out {P : Program} {s d a' e : TypeId} {x : Value} {w : World} {K : Value → World → Prop} (hs : P.underlying s = some (.slice a')) (hd : P.underlying d = some (.slice e)) (hsd : s = d) (he : P.underlying e = some (.int .u8))
    (h : vB2B x w K) : ∃ v w', K v w' ∧ (convert s d x).run P w = .ok v w' := by
  unfold vB2B at h
  split at h
  · rename_i a n c
    split at h
    · rename_i cs T hb
      refine ⟨_, _, h, ?_⟩
      unfold convert
      rw [run_bind_ok (run_und hs w), run_bind_ok (run_und hd w)]
      simp only []
      rw [run_bind_ok (run_und he w)]
      simp only [hsd, beq_self_eq_true]
      obtain ⟨b, o, sp⟩ := a
      rw [run_bind_ok (mark_run hb)]
      rfl
    · exact h.elim
  · exact h.elim

theorem vConvW_out {P : Program} {s d : TypeId} {x : Value} {w : World} {K : Value → World → Prop} (h : vConvW P (cvk P s d) (tk P d) x w K) :
    ∃ v w', K v w' ∧ (convert s d x).run P w = .ok v w' := by
  unfold vConvW at h
  split at h
  · rename_i hk
    have hs : (P.underlying s).isSome = true := by
      unfold cvk at hk
      split at hk <;> first | (cases hk; done) | (split at hk <;> first | (cases hk; done) | (rename_i h1 _ _; rw [h1]; rfl)) | skip
      all_goals (simp [*])
    obtain ⟨v, hv, hr⟩ := vConv_out (P := P) hs h
    exact ⟨v, w, hv, hr w⟩
  · rename_i e hk
    unfold cvk at hk
    split at hk <;> try (cases hk; done)
    · rename_i e' h1 h2
      split at hk <;> try (cases hk; done)
      rename_i h3
      cases hk
      exact vS2B_out h1 h2 h3 h
    · split at hk <;> cases hk
    · split at hk <;> cases hk
    · split at hk <;> try (cases hk; done)
      rename_i i hi
      cases hz : Nat.beq i.size 0 <;> rw [hz] at hk <;> simp at hk
    · split at hk <;> cases hk
  · rename_i hk
    unfold cvk at hk
    split at hk <;> try (cases hk; done)
    · split at hk <;> cases hk
    · rename_i e' h1 h2
      split at hk <;> try (cases hk; done)
      rename_i h3
      obtain ⟨v, hv, hr⟩ := vB2S_out h1 h2 h3 h
      exact ⟨v, w, hv, hr⟩
    · split at hk <;> cases hk
    · split at hk <;> try (cases hk; done)
      rename_i i hi
      cases hz : Nat.beq i.size 0 <;> rw [hz] at hk <;> simp at hk
    · split at hk <;> cases hk
  · rename_i hk
    unfold cvk at hk
    split at hk <;> try (cases hk; done)
    · split at hk <;> cases hk
    · split at hk <;> cases hk
    · rename_i a' e' h1 h2
      split at hk <;> try (cases hk; done)
      rename_i hb h3
      exact vB2B_out h1 h2 (Nat.eq_of_beq_eq_true hb) h3 h
    · split at hk <;> try (cases hk; done)
      rename_i i hi
      cases hz : Nat.beq i.size 0 <;> rw [hz] at hk <;> simp at hk
    · split at hk <;> cases hk
  · rename_i hk
    unfold cvk at hk
    split at hk <;> try (cases hk; done)
    · split at hk <;> cases hk
    · split at hk <;> cases hk
    · split at hk <;> cases hk
    · rename_i t h1 h2
      split at hk <;> try (cases hk; done)
      rename_i i hi
      cases hz : Nat.beq i.size 0 <;> rw [hz] at hk <;> simp at hk
      have hz' : i.size ≠ 0 := by intro e; rw [e] at hz; cases hz
      unfold vToU at h
      split at h <;> try (exact h.elim)
      rename_i a
      split at h <;> try (exact h.elim)
      rename_i cs T fr hb
      exact ⟨_, w, h.2, Go.Lib.run_to_unsafe (e := T) (cells := cs.size) w a h1 h2 hi hz' (by simp [World.shape?, hb]) h.1⟩
    · split at hk <;> cases hk
  · rename_i u hk
    unfold cvk at hk
    split at hk <;> try (cases hk; done)
    · split at hk <;> cases hk
    · split at hk <;> cases hk
    · split at hk <;> cases hk
    · split at hk <;> try (cases hk; done)
      rename_i i hi
      cases hz : Nat.beq i.size 0 <;> rw [hz] at hk <;> simp at hk
    · rename_i u' h1 h2
      split at hk <;> try (cases hk; done)
      rename_i i hi
      cases hk
      unfold vFromU at h
      split at h <;> try (exact h.elim)
      rename_i a
      split at h <;> try (exact h.elim)
      rename_i cs T fr hb
      exact ⟨_, w, h.2, Go.Lib.run_from_unsafe (e := T) (cells := cs.size) w a h1 h2 hi (by simp [World.shape?, hb]) h.1⟩
  · exact h.elim

theorem plainB_frozen {P : Program} {w : World} {a : Addr} (h : plainB w a.block) : (frozen a).run P w = .ok false w := by
  obtain ⟨c, T, h⟩ := h
  simp [frozen, Sem.run, World.frozen?, h]

theorem plainB_view {P : Program} {w : World} {a : Addr} (h : plainB w a.block) : (noView a).run P w = .ok () w := by
  obtain ⟨c, T, h⟩ := h
  unfold noView viewAt
  rw [run_bind_ok (a := none) (w' := w)]
  · rfl
  · rw [run_bind_ok (run_shape_cells h)]
    rfl

theorem plainB_stringish {P : Program} {w : World} {a : Addr} (h : plainB w a.block) : (stringish a).run P w = .ok false w := by
  have hf := plainB_frozen (P := P) h
  obtain ⟨c, T, h⟩ := h
  unfold stringish
  rw [run_bind_ok hf]
  simp only [Bool.false_eq_true, if_false]
  rw [run_bind_ok (run_shape_cells h)]
  simp only []
  simp [frozen, Sem.run, World.frozen?, h]

theorem sameAddr_far {P : Program} {w : World} {a b : Addr} (hab : a.block ≠ b.block) (ha : plainB w a.block) (hb : plainB w b.block) : (sameAddr a b).run P w = .ok false w := by
  unfold sameAddr
  rw [if_neg (by simpa using hab)]
  rw [run_bind_ok (plainB_frozen ha), run_bind_ok (plainB_frozen hb)]
  simp only [Bool.and_self, Bool.false_eq_true, if_false]
  rw [run_bind_ok (plainB_view ha), run_bind_ok (plainB_view hb)]
  rw [run_bind_ok (a := false) (w' := w)]
  · rfl
  · unfold mayBeOne
    rw [run_bind_ok (plainB_stringish ha), run_bind_ok (plainB_stringish hb)]
    obtain ⟨ca, Ta, ha'⟩ := ha
    obtain ⟨cb, Tb, hb'⟩ := hb
    simp [Sem.run_bind, run_shape_cells ha', run_shape_cells hb', Result.andThen, Sem.run_pure]

theorem sameAddr_near {P : Program} {w : World} {a b : Addr} (hab : a.block = b.block) : (sameAddr a b).run P w = .ok (a == b) w := by
  unfold sameAddr
  rw [if_pos (by simpa using hab)]
  rfl

theorem vBinW_out {P : Program} {op : BinOp} {t : TypeId} {ox oy : Operand} {x y : Value} {w : World} {K : Value → World → Prop} (h : vBinW P t (tkB P t oy) op x y w K) :
    ∃ v w', K v w' ∧ (do eqGuard op t ox oy x y; binOp op t x y : Sem Value).run P w = .ok v w' := by
  unfold vBinW at h
  split at h
  · rename_i ht
    obtain ⟨e, i, he, hi, hbig⟩ := tk_ptr (tkB_ne ht (by simp))
    have hsz : i.size ≠ 0 := by intro e0; rw [e0] at hbig; cases hbig
    unfold vPtr at h
    have fin : ∀ {b : Bool} {x y : Value}, vEqB op b (fun v => K v w) → (Op.equal t x y).run P w = .ok b w → (∀ cs, x ≠ .agg cs) → x ≠ .nilIface →
      (binOp .eql t x y = (do pure (.bool (← Op.equal t x y)))) → (binOp .neq t x y = (do pure (.bool (!(← Op.equal t x y))))) →
      ∃ v w', K v w' ∧ (do eqGuard op t ox oy x y; binOp op t x y : Sem Value).run P w = .ok v w' := by
      intro b x y hb hw h1 h2 e1 e2
      unfold vEqB at hb
      split at hb
      · exact ⟨_, w, hb, by rw [run_bind_ok (guard_plain h1 h2 w), e1, run_bind_ok hw]; rfl⟩
      · exact ⟨_, w, hb, by rw [run_bind_ok (guard_plain h1 h2 w), e2, run_bind_ok hw]; rfl⟩
      · exact hb.elim
    split at h
    · rename_i a b
      by_cases hab : a.block = b.block
      · refine fin (h.1 hab) ?_ (by simp) (by simp) rfl rfl
        unfold Op.equal Op.maxDepth Op.equalIn
        rw [run_bind_ok (run_und he w)]
        simp only []
        rw [run_bind_ok (run_size hi w)]
        rw [if_pos hsz]
        exact sameAddr_near hab
      · obtain ⟨h1, h2, h3⟩ := h.2 hab
        refine fin h3 ?_ (by simp) (by simp) rfl rfl
        unfold Op.equal Op.maxDepth Op.equalIn
        rw [run_bind_ok (run_und he w)]
        simp only []
        rw [run_bind_ok (run_size hi w)]
        rw [if_pos hsz]
        exact sameAddr_far hab h1 h2
    · exact fin h (eq_ptr_none he w) (by simp) (by simp) rfl rfl
    · exact fin h (eq_ptr_none' he w) (by simp) (by simp) rfl rfl
    · exact h.elim
  · obtain ⟨v, hv, hr⟩ := vBinP_out (P := P) (ox := ox) (oy := oy) h
    exact ⟨v, w, hv, hr w⟩

theorem vCallV_out {P : Program} {f : Value} {args : List Value} {w : World} {K : Value → World → Prop} (h : vCallV P f args w K) :
    OpR P ((do let d ← Deferred.ofValue f args.toArray; invoke d.target d.args : Sem Next).run P w) K := by
  unfold vCallV at h
  split at h
  · rename_i g first cap
    have e1 : (first ++ args.toArray ++ cap) = (first.toList ++ args ++ cap.toList).toArray := by
      apply Array.toList_inj.1; simp
    simp only [Deferred.ofValue]
    rw [run_bind_ok (a := _) (w' := w) rfl]
    simp only [invoke]
    rw [e1]
    rcases h with ⟨hE, hC⟩ | ⟨v, w', hr, hk⟩
    · rw [hE]; exact hC
    · rw [hr]; exact hk
  · rename_i l first cap
    have e1 : (first ++ args.toArray) = (first.toList ++ args).toArray := by
      apply Array.toList_inj.1; simp
    simp only [Deferred.ofValue]
    rw [run_bind_ok (a := _) (w' := w) rfl]
    simp only [invoke]
    rw [e1]
    obtain ⟨f, t, a, b, h1, h2⟩ := h
    rw [h1]; exact h2
  · exact h.elim

theorem method_run {P : Program} {t : TypeId} {name : String} {f : FuncId} (h : methodOf P t name = some f) (v : Value) (n : Nat) (w : World) : (method (n + 1) t v name).run P w = .ok (f, v) w := by
  unfold methodOf at h
  split at h
  · rename_i i hi
    split at h
    · rename_i m hm
      split at h
      · rename_i f' p hpath hfunc
        unfold method
        rw [run_bind_ok (a := i) (w' := w) (run_typeInfo w hi)]
        simp only [hm]
        rw [hpath]
        rw [run_bind_ok (a := (t, Place.val v)) (w' := w) rfl]
        simp only [hfunc]
        have fin : (receiverAt t (.val v) p (if m.path.isEmpty then some ((name.splitOn ".").getLastD name) else none)).run P w = .ok v w ∧ f' = f := by
          split at h
          · rename_i e hu
            cases h
            refine ⟨?_, rfl⟩
            unfold receiverAt
            rw [run_bind_ok (run_und hu w)]
            rfl
          · cases h
          · rename_i u hne hu
            cases h
            refine ⟨?_, rfl⟩
            unfold receiverAt
            rw [run_bind_ok (run_und hu w)]
            cases u <;> first | rfl | exact absurd rfl (hne _)
          · cases h
        obtain ⟨h1, rfl⟩ := fin
        rw [run_bind_ok h1]
        rfl
      · cases h
    · cases h
  · cases h

theorem vInvoke_out {P : Program} {recv : Value} {name : String} {args : List Value} {w : World} {K : Value → World → Prop} (h : vInvoke P recv name args w K) :
    OpR P ((invoke (.fn (.method name) #[]) (#[recv] ++ args.toArray)).run P w) K := by
  unfold vInvoke at h
  split at h
  · rename_i t v
    split at h
    · rename_i f hf
      have e1 : (invoke (.fn (.method name) #[]) (#[Value.iface t v] ++ args.toArray)).run P w = (callFunc f (v :: args).toArray).run P w := by
        simp only [invoke]
        have e0 : ((#[Value.iface t v] ++ args.toArray)[0]? : Option Value) = some (.iface t v) := by simp
        simp only [e0, callMethod]
        rw [run_bind_ok (a := P) (w' := w) rfl]
        have hpos : 0 < Made.depth := by decide
        have hd : P.types.size + Made.depth = (P.types.size + Made.depth - 1) + 1 := by omega
        rw [hd, run_bind_ok (method_run hf v _ w)]
        simp only []
        congr 2
        apply Array.toList_inj.1
        simp
      rw [e1]
      rcases h with h | ⟨v', w', hr, hv⟩
      · rw [h.1]
        exact h.2
      · rw [hr]; exact hv
    · exact h.elim
  · exact h.elim

theorem freeze_fr {w : World} {b n : Nat} {c : Array Value} {T : TypeId} {fr : Nat × Nat} (hn : n ≠ 0) (h : w.heap[b]? = some (.cells c T fr)) :
    w.freeze ⟨b, 0, none⟩ n = w.putObj b (.cells c T (if fr.1 == fr.2 then (0, n) else (0, max fr.2 n))) := by
  unfold World.freeze World.putObj
  rw [if_neg hn]
  congr 1
  apply Array.ext_getElem?
  intro i
  rw [Array.getElem?_modify, Array.getElem?_setIfInBounds]
  split
  · rename_i e; subst e
    obtain ⟨hlt, he⟩ := Array.getElem?_eq_some_iff.1 h
    obtain ⟨lo, hi⟩ := fr
    simp [hlt, he]
  · rfl

theorem vUStr_out {P : Program} {t it ty : TypeId} {p n : Value} {w : World} {K : Value → World → Prop} (h : vUStr P t p n w K) :
    ∃ v w', K v w' ∧ (Builtin.unsafeString_ #[t, it] ty #[p, n]).run P w = .ok v w' := by
  unfold vUStr at h
  split at h
  · rename_i e q k n he
    obtain ⟨hs, h0, h1⟩ := h
    by_cases hn : n = 0
    · subst hn
      refine ⟨_, w, h0 rfl, ?_⟩
      exact Lib.run_unsafeString_none w t it ty q
    · have h1 := h1 hn
      cases q with
      | none => exact h1.elim
      | some a =>
        obtain ⟨l, rfl, ha, hl, h2⟩ := h1
        split at h2
        · rename_i c T fr hb
          obtain ⟨rfl, hlc, hc, hk⟩ := h2
          refine ⟨_, _, hk, ?_⟩
          have hne : l.length ≠ 0 := by omega
          rw [← freeze_fr hne hb]
          have hcell : P.cellsOf T = 1 := by
            unfold szOf at hs
            unfold Program.cellsOf
            rw [hs]; rfl
          rw [ha]
          exact Lib.run_unsafeString_row w t it ty T he hcell a.block c.size (by simp [World.shape?, hb]) l (by intro e; rw [e] at hne; simp at hne) hlc (by omega)
            (fun j x hx => by rw [add_off, getD_cell hb, Nat.zero_add]; exact hc j x hx)
        · exact h2.elim
  · exact h.elim

theorem beq_bytes (a b : ByteArray) : (a == b) = true ↔ a = b := by
  obtain ⟨x⟩ := a
  obtain ⟨y⟩ := b
  constructor
  · intro h
    have e : x = y := by simpa using (show (x == y) = true from h)
    rw [e]
  · intro h
    cases h
    show (x == x) = true
    simp

theorem find_now {s : ByteArray} : ∀ (es : List MapEntry) (ks : List (ByteArray × Value)) (i : Nat), es.map (fun e => (e.key, e.val)) = ks.map (fun p => (Value.string p.1, p.2)) →
    match mapAt s ks with
    | some v => ∃ j, Instr.findNow .string (.string s) es i = some (some (j, v))
    | none => Instr.findNow .string (.string s) es i = some none
  | [], [], i, _ => rfl
  | [], _ :: _, i, h => by simp at h
  | _ :: _, [], i, h => by simp at h
  | e :: es, (k, v) :: ks, i, h => by
    simp only [List.map_cons, List.cons.injEq, Prod.mk.injEq] at h
    obtain ⟨⟨h1, h2⟩, h3⟩ := h
    have ih := find_now (s := s) es ks (i + 1) h3
    unfold mapAt Instr.findNow
    rw [h1]
    by_cases e0 : s = k
    · rw [if_pos e0]
      subst e0
      simp only [Instr.sameNow, (beq_bytes s s).2 rfl]
      exact ⟨i, by rw [h2]⟩
    · rw [if_neg e0]
      have : (s == k) = false := by
        cases hb : s == k
        · rfl
        · exact absurd ((beq_bytes s k).1 hb) e0
      simp only [Instr.sameNow, this]
      exact ih

theorem find_key {P : Program} {kt : TypeId} {s : ByteArray} {es : Array MapEntry} {ks : List (ByteArray × Value)} (hk : P.underlying kt = some .string) (h : mapIs es ks) (w : World) :
    match mapAt s ks with
    | some v => ∃ j, (Instr.findKey kt (.string s) es.toList).run P w = .ok (some (j, v)) w
    | none => (Instr.findKey kt (.string s) es.toList).run P w = .ok none w := by
  have hf := find_now (s := s) es.toList ks 0 h
  unfold Instr.findKey
  rw [run_bind_ok (run_und hk w)]
  cases hm : mapAt s ks with
  | none =>
    rw [hm] at hf
    simp only at hf ⊢
    rw [hf]; rfl
  | some v =>
    rw [hm] at hf
    obtain ⟨j, hj⟩ := hf
    simp only
    exact ⟨j, by rw [hj]; rfl⟩

theorem check_key {P : Program} {kt : TypeId} {s : ByteArray} (hk : P.underlying kt = some .string) (e : Bool) (w : World) : (Instr.checkKey e 10000 kt (.string s)).run P w = .ok () w := by
  unfold Instr.checkKey
  rw [run_bind_ok (run_und hk w)]
  rfl

theorem getObj_map {P : Program} {w : World} {r : Nat} {es : Array MapEntry} {clock : Nat} (hb : w.heap[r]? = some (.map es clock)) : (getObj r).run P w = .ok (.map es clock) w := by
  simp [getObj, Sem.run, hb]
theorem setObj_map {P : Program} {w : World} {r : Nat} {es : Array MapEntry} {clock : Nat} (o : Obj) (hb : w.heap[r]? = some (.map es clock)) : (setObj r o).run P w = .ok () (w.putObj r o) := by
  simp [setObj, Sem.run, hb, World.putObj]

theorem vLookup_out {P : Program} {t : TypeId} {m k : Value} {ok : Bool} {w : World} {K : Value → Prop} (h : vLookup P t m k ok w K) : ∃ v, K v ∧ (Instr.lookup t m k ok).run P w = .ok v w := by
  unfold vLookup at h
  split at h <;> try (exact h.elim)
  case h_2 =>
    rename_i kt et b kd n ht
    exact vLookI_out ht h
  rename_i kt et b s ht
  obtain ⟨hk, h⟩ := h
  split at h <;> try (exact h.elim)
  rename_i es clock hb
  obtain ⟨ks, hks, h⟩ := h
  have hf := find_key (s := s) hk hks w
  unfold Instr.lookup
  rw [run_bind_ok (run_und ht w)]
  simp only
  cases hm : mapAt s ks with
  | some v =>
    rw [hm] at hf h
    obtain ⟨j, hj⟩ := hf
    refine ⟨_, h, ?_⟩
    rw [run_bind_ok (getObj_map hb)]
    simp only
    rw [run_bind_ok (a := es) (w' := w) rfl, run_bind_ok (check_key hk _ w), run_bind_ok hj]
    cases ok <;> rfl
  | none =>
    rw [hm] at hf h
    simp only at hf h
    split at h <;> try (exact h.elim)
    rename_i z hz
    obtain ⟨i, hi, hzi⟩ := Option.bind_eq_some_iff.1 hz
    refine ⟨_, h, ?_⟩
    have hzv : (zeroValue et).run P w = .ok z w := by
      unfold zeroValue
      rw [run_bind_ok (run_typeInfo w hi)]
      rw [hzi]; rfl
    rw [run_bind_ok (getObj_map hb)]
    simp only
    rw [run_bind_ok (a := es) (w' := w) rfl, run_bind_ok (check_key hk _ w), run_bind_ok hf]
    simp only
    rw [run_bind_ok hzv]
    cases ok <;> rfl

theorem vMapUpd_out {P : Program} {t : TypeId} {m k x : Value} {w : World} {K : World → Prop} (h : vMapUpd P t m k x w K) : ∃ w', K w' ∧ (Instr.mapUpdate t m k x).run P w = .ok () w' := by
  unfold vMapUpd at h
  split at h <;> try (exact h.elim)
  case h_2 =>
    rename_i kt et b kd n ht
    exact vUpdI_out ht h
  rename_i kt et b s ht
  obtain ⟨hk, h⟩ := h
  split at h <;> try (exact h.elim)
  rename_i es clock hb
  obtain ⟨⟨ks, hks, hm⟩, h⟩ := h
  have hf := find_key (s := s) hk hks w
  rw [hm] at hf
  simp only at hf
  refine ⟨_, h, ?_⟩
  unfold Instr.mapUpdate
  rw [run_bind_ok (run_und ht w)]
  simp only
  rw [run_bind_ok (getObj_map hb)]
  simp only
  rw [run_bind_ok (check_key hk _ w), run_bind_ok hf]
  simp only
  exact setObj_map _ hb

theorem vMakeMap_out {P : Program} {t : TypeId} {r : Option Operand} {ρ : Env} {w : World} {K : Value → World → Prop} (h : vMakeMap r w K) : ∃ v w', K v w' ∧ (Instr.makeMap t (r.map (ev ρ))).run P w = .ok v w' := by
  unfold vMakeMap at h
  split at h
  · exact ⟨_, _, h, rfl⟩
  · exact h.elim

theorem vMakeMapN_out {P : Program} {t : TypeId} {x : Value} {w : World} {K : Value → World → Prop} (h : vMakeMapN P t x w K) : ∃ v w', K v w' ∧ (Instr.makeMap t (some x)).run P w = .ok v w' := by
  unfold vMakeMapN at h
  split at h
  · rename_i kt et k n ht
    refine ⟨_, _, h, ?_⟩
    unfold Instr.makeMap
    simp only [Sem.run_bind, run_und ht w, Result.andThen]
    rfl
  · exact h.elim

theorem op_sound {P : Program} {o : Oper} {ρ : Env} {w : World} {K : Value → World → Prop} (h : opV P o.op ρ w K) : OpR P ((execOp (ev ρ) o).run P w) K := by
  have wrap : ∀ {s : Sem Value}, (∃ v w', K v w' ∧ s.run P w = .ok v w') → OpR P ((do pure (Next.value (← s)) : Sem Next).run P w) K := by
    rintro s ⟨v, w', hv, hr⟩
    rw [run_bind_ok hr]; exact hv
  have e1 : ∀ (xs : Array Operand), xs.map (ev ρ) = (xs.toList.map (ev ρ)).toArray := fun xs => by apply Array.toList_inj.1; simp
  by_cases hp : pureOp P o.op ρ fun v => K v w
  · obtain ⟨v, hv, hr⟩ := pure_sound hp
    rw [hr w]; exact hv
  unfold execOp
  generalize o.op = op at h hp
  unfold opV at h
  split at h
  · exact wrap (vAlloc_out h)
  · rename_i e x
    exact wrap ⟨_, _, h, rfl⟩
  · exact wrap (vBuildSlice_out h)
  · obtain ⟨v, hv, hr⟩ := vLd_out h
    exact wrap ⟨v, w, hv, hr⟩
  · obtain ⟨w', hv, hr⟩ := vSt_out h
    simp only []
    rw [run_bind_ok hr]; exact hv
  · exact wrap (vConvW_out h)
  · exact wrap (vBinW_out h)
  · exact wrap (vMakeSlice_out h)
  · split at h
    · exact wrap (vMakeMap_out (r := none) (ρ := ρ) h)
    · exact wrap (vMakeMapN_out h)
  · exact wrap (vRange_out h)
  · exact wrap (vNext_out (ty := o.type) h)
  · obtain ⟨v, hv, hr⟩ := vLookup_out h
    exact wrap ⟨v, w, hv, hr⟩
  · obtain ⟨w', hv, hr⟩ := vMapUpd_out h
    simp only []
    rw [run_bind_ok hr]; exact hv
  · obtain ⟨w', hv, hr⟩ := vMapUpd_out h
    simp only []
    rw [run_bind_ok hr]; exact hv
  · exact wrap (vEntry_out h)
  · obtain ⟨w', hv, hr⟩ := vEntrySt_out h
    simp only []
    rw [run_bind_ok hr]; exact hv
  · rename_i f args ts
    simp only [resolve, e1]
    exact vCallV_out h
  · rename_i recv name args ts
    simp only [resolve, e1]
    exact vInvoke_out h
  · split at h
    · rename_i args ts _ _ s x t u ha ht
      have hts : ts = #[t, u] := by apply Array.toList_inj.1; rw [ht]
      have hargs : args = #[s, x] := by apply Array.toList_inj.1; rw [ha]
      subst hts; subst hargs
      obtain ⟨v, w', hv, hr⟩ := vAppend_out (ty := o.type) h
      simp only [resolve]
      rw [run_bind_ok (a := _) (w' := w) rfl]
      simp only [invoke, builtin, List.map_toArray, List.map_cons, List.map_nil]
      rw [run_bind_ok hr]; exact hv
    · exact h.elim
  · split at h
    · rename_i args ts _ _ s x t u ha ht
      have hts : ts = #[t, u] := by apply Array.toList_inj.1; rw [ht]
      have hargs : args = #[s, x] := by apply Array.toList_inj.1; rw [ha]
      subst hts; subst hargs
      obtain ⟨v, w', hv, hr⟩ := vCopy_out (ty := o.type) (u := u) h
      simp only [resolve]
      rw [run_bind_ok (a := _) (w' := w) rfl]
      simp only [invoke, builtin, List.map_toArray, List.map_cons, List.map_nil]
      rw [run_bind_ok hr]; exact hv
    · exact h.elim
  · split at h
    · rename_i args ts _ _ x t ha ht
      have hts : ts = #[t] := by apply Array.toList_inj.1; rw [ht]
      have hargs : args = #[x] := by apply Array.toList_inj.1; rw [ha]
      subst hts; subst hargs
      obtain ⟨v, w', hv, hr⟩ := vClear_out (ty := o.type) h
      simp only [resolve]
      rw [run_bind_ok (a := _) (w' := w) rfl]
      simp only [invoke, builtin, List.map_toArray, List.map_cons, List.map_nil]
      rw [run_bind_ok hr]; exact hv
    · exact h.elim
  · split at h
    · rename_i args ts _ _ p n t u ha ht
      have hts : ts = #[t, u] := by apply Array.toList_inj.1; rw [ht]
      have hargs : args = #[p, n] := by apply Array.toList_inj.1; rw [ha]
      subst hts; subst hargs
      obtain ⟨v, w', hv, hr⟩ := vUStr_out (ty := o.type) (it := u) h
      simp only [resolve]
      rw [run_bind_ok (a := _) (w' := w) rfl]
      simp only [invoke, builtin, List.map_toArray, List.map_cons, List.map_nil]
      rw [run_bind_ok hr]; exact hv
    · exact h.elim
  · split at h
    · rename_i args ts _ _ m k t u ha ht
      have hts : ts = #[t, u] := by apply Array.toList_inj.1; rw [ht]
      have hargs : args = #[m, k] := by apply Array.toList_inj.1; rw [ha]
      subst hts; subst hargs
      obtain ⟨v, w', hv, hr⟩ := vDel_out (ty := o.type) (u := u) h
      simp only [resolve]
      rw [run_bind_ok (a := _) (w' := w) rfl]
      simp only [invoke, builtin, List.map_toArray, List.map_cons, List.map_nil]
      rw [run_bind_ok hr]; exact hv
    · exact h.elim
  · split at h
    · rename_i args ts _ _ x t ha ht
      have hts : ts = #[t] := by apply Array.toList_inj.1; rw [ht]
      have hargs : args = #[x] := by apply Array.toList_inj.1; rw [ha]
      subst hts; subst hargs
      split at h
      · rename_i kt et hm
        obtain ⟨v, w', hv, hr⟩ := vLenM_out (ty := o.type) hm h
        simp only [resolve]
        rw [run_bind_ok (a := _) (w' := w) rfl]
        simp only [invoke, builtin, List.map_toArray, List.map_cons, List.map_nil]
        rw [run_bind_ok hr]; exact hv
      · exact absurd (by unfold pureOp; exact h) hp
    · exact h.elim
  · exact absurd h hp

end Go.V
