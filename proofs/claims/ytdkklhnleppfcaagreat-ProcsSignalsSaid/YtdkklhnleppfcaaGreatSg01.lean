/-
  The engine, part 1: a deep predicate 'V.op' of one operation of the model, in continuation form. Own work.
-/
import Derived.WalkKit
import Derived.RangeFuncNested
import Derived.RangeFuncBound
import Derived.RangeFuncCalls
import Derived.RangeFuncLeaves
import Derived.OwnWalkIn
import Derived.TacticsInMore
import Derived.Deep.MidRow
import Derived.Lib.IndexBytes
import Derived.DeepKeys
set_option linter.unusedVariables false
set_option linter.unusedSimpArgs false

set_option linter.unusedVariables false
namespace Go.V
open Go Go.RowKit

abbrev Env := Nat → Value

def put (ρ : Env) (d : Option Nat) (v : Value) : Env :=
  match d with
  | none => ρ
  | some d => fun i => bif Nat.beq i d then v else ρ i

def ev (ρ : Env) : Operand → Value
  | .tmp t => ρ t
  | .const v => v
  | .global g => .pointer (some ⟨g, 0, none⟩)
  | .func f => .func (.func f) #[] #[]

inductive TK where
  | bool | int (k : IntKind) | string | ptr (big : Bool) | slice (es : Nat) | map | func | iface | agg | arr (n es : Nat) | inil | other

def cellsOf (P : Program) (t : TypeId) : Nat := ((P.info? t).map (·.size)).getD 0

def tk (P : Program) (t : TypeId) : TK :=
  match P.underlying t with
  | some .bool => .bool
  | some (.int k) => .int k
  | some .string => .string
  | some (.pointer e) => match P.info? e with
    | some i => .ptr (!(Nat.beq i.size 0))
    | none => .other
  | some (.slice e) => match P.info? e with
    | some i => .slice i.size
    | none => .other
  | some (.map _ _) => .map
  | some (.func _ _ _) => .func
  | some (.interface _) => .iface
  | some (.struct _) => .agg
  | some (.array n e) => match P.info? e with
    | some i => .arr n i.size
    | none => .other
  | _ => .other

def tkB (P : Program) (t : TypeId) (y : Operand) : TK :=
  match tk P t, y with
  | .iface, .const .nilIface => .inil
  | k, _ => k

inductive LD where
  | one | agg (n : Nat) | bad

def ldk (P : Program) (t : TypeId) : LD :=
  match P.underlying t, P.info? t with
  | some (.struct _), some i => .agg i.size
  | some (.array _ _), some i => .agg i.size
  | some _, some _ => .one
  | _, _ => .bad

def zc (P : Program) (t : TypeId) : Option (Array Value) := ((P.info? t).bind (·.zero)).map (·.cells)

def fa (P : Program) (s : TypeId) (f : Nat) : Option Nat :=
  match P.underlying s with
  | some (.struct fs) => match fs[f]? with
    | some f => match P.info? f.type with
      | some i => bif Nat.beq i.size 0 then none else some f.offset
      | none => none
    | none => none
  | _ => none

def fv (P : Program) (s : TypeId) (f : Nat) : Option (LD × Nat) :=
  match P.underlying s with
  | some (.struct fs) => match fs[f]? with
    | some f => some (ldk P f.type, f.offset)
    | none => none
  | _ => none

def elemOf (P : Program) (t : TypeId) : Option TypeId :=
  match P.underlying t with
  | some (.slice e) => some e
  | some (.array _ e) => some e
  | _ => none

def vBool (v : Value) (K : Bool → Prop) : Prop :=
  match v with
  | .bool b => K b
  | _ => False

def vNil (v : Value) (K : Value → Prop) : Prop :=
  match v with
  | .pointer (some a) => K (.pointer (some a))
  | .iface t x => K (.iface t x)
  | .func (.func f) a b => K (.func (.func f) a b)
  | .func (.yield l) a b => K (.func (.yield l) a b)
  | _ => False

def methodOf (P : Program) (t : TypeId) (name : String) : Option FuncId :=
  match P.info? t with
  | some i => match i.methods.find? (·.name == name) with
    | some m => match m.path.toList, m.func with
      | [], some (f, p) => match P.underlying t, p with
        | some (.pointer _), true => some f
        | some (.pointer _), false => none
        | some _, false => some f
        | _, _ => none
      | _, _ => none
    | none => none
  | none => none

def vNilP (P : Program) (v : Value) (K : Value → Prop) : Prop :=
  match v with
  | .func (.method name) first cap => match first.toList with
    | .iface t _ :: _ => (methodOf P t name).isSome = true ∧ K (.func (.method name) first cap)
    | _ => False
  | v => vNil v K

def bitsI (k : IntKind) (f : BitVec k.bits → BitVec k.bits → BitVec k.bits) (a b : Int) : Int :=
  k.wrap ((f (BitVec.ofInt k.bits a) (BitVec.ofInt k.bits b)).toNat : Int)

def vInt (op : BinOp) (k : IntKind) (a : Int) (k' : IntKind) (b : Int) (K : Value → Prop) : Prop :=
  match op with
  | .shl => 0 ≤ b ∧ K (.int k (k.wrap (a * 2 ^ (min b.toNat k.bits))))
  | .shr => 0 ≤ b ∧ K (.int k (a.fdiv (2 ^ (min b.toNat k.bits))))
  | .add => k = k' ∧ K (.int k (k.wrap (a + b)))
  | .sub => k = k' ∧ K (.int k (k.wrap (a - b)))
  | .mul => k = k' ∧ K (.int k (k.wrap (a * b)))
  | .quo => k = k' ∧ b ≠ 0 ∧ K (.int k (k.wrap (a.tdiv b)))
  | .rem => k = k' ∧ b ≠ 0 ∧ K (.int k (a.tmod b))
  | .and => k = k' ∧ K (.int k (bitsI k (· &&& ·) a b))
  | .or => k = k' ∧ K (.int k (bitsI k (· ||| ·) a b))
  | .xor => k = k' ∧ K (.int k (bitsI k (· ^^^ ·) a b))
  | .andNot => k = k' ∧ K (.int k (bitsI k (fun x y => x &&& ~~~y) a b))
  | .eql => k = k' ∧ K (.bool (a == b))
  | .neq => k = k' ∧ K (.bool (a != b))
  | .lss => k = k' ∧ K (.bool (decide (a < b)))
  | .leq => k = k' ∧ K (.bool (decide (a ≤ b)))
  | .gtr => k = k' ∧ K (.bool (decide (b < a)))
  | .geq => k = k' ∧ K (.bool (decide (b ≤ a)))

def vStr (op : BinOp) (a b : ByteArray) (K : Value → Prop) : Prop :=
  match op with
  | .add => a.size + b.size < 9223372036854775808 ∧ K (.string (a ++ b))
  | .eql => K (.bool (a.data.toList == b.data.toList))
  | .neq => K (.bool (!(a.data.toList == b.data.toList)))
  | .lss => K (.bool (Op.bytesLess a.data.toList b.data.toList))
  | .leq => K (.bool (Op.bytesLess a.data.toList b.data.toList || a.data.toList == b.data.toList))
  | .gtr => K (.bool (!(Op.bytesLess a.data.toList b.data.toList || a.data.toList == b.data.toList)))
  | .geq => K (.bool (!(Op.bytesLess a.data.toList b.data.toList)))
  | _ => False

def vEqB (op : BinOp) (b : Bool) (K : Value → Prop) : Prop :=
  match op with
  | .eql => K (.bool b)
  | .neq => K (.bool (!b))
  | _ => False

def vBin (t : TK) (op : BinOp) (x y : Value) (K : Value → Prop) : Prop :=
  match x, y with
  | .int k a, .int k' b => vInt op k a k' b K
  | .string a, .string b => vStr op a b K
  | .bool a, .bool b => match t with
    | .bool => vEqB op (a == b) K
    | _ => False
  | .pointer none, .pointer b => match t with
    | .ptr _ => vEqB op b.isNone K
    | _ => False
  | .pointer (some _), .pointer none => match t with
    | .ptr _ => vEqB op false K
    | _ => False
  | .slice none _ _, .slice b _ _ => match t with
    | .slice _ => vEqB op b.isNone K
    | _ => False
  | .slice (some _) _ _, .slice none _ _ => match t with
    | .slice _ => vEqB op false K
    | _ => False
  | .map none, .map b => match t with
    | .map => vEqB op b.isNone K
    | _ => False
  | .map (some _), .map none => match t with
    | .map => vEqB op false K
    | _ => False
  | .func _ _ _, .nilFunc => match t with
    | .func => vEqB op false K
    | _ => False
  | .nilFunc, .nilFunc => match t with
    | .func => vEqB op true K
    | _ => False
  | .iface _ _, .nilIface => match t with
    | .inil => vEqB op false K
    | _ => False
  | .nilIface, .nilIface => match t with
    | .inil => vEqB op true K
    | _ => False
  | _, _ => False

def vAggEq (P : Program) (t : TypeId) (op : BinOp) (x y : Value) (K : Value → Prop) : Prop :=
  match x, y with
  | .agg xs, .agg ys => ∃ (m D D' : Nat) (la lb : List Lit), m ≤ 10000 ∧ P.keyTypeAt m t = true ∧ (Value.agg xs).formed P t = true ∧ (Value.agg ys).formed P t = true ∧
      P.keyLits D t xs.toList = some la ∧ P.keyLits D' t ys.toList = some lb ∧ P.eqGuardType P.depth t = false ∧ ∀ b : Bool, (b = true ↔ la = lb) → vEqB op b K
  | _, _ => False

def vBinP (P : Program) (t : TypeId) (k : TK) (op : BinOp) (x y : Value) (K : Value → Prop) : Prop :=
  match k with
  | .agg => vAggEq P t op x y K
  | .arr _ _ => vAggEq P t op x y K
  | k => vBin k op x y K

def vUn (op : UnOp) (x : Value) (K : Value → Prop) : Prop :=
  match op, x with
  | .neg, .int k n => K (.int k (k.wrap (0 - n)))
  | .xor, .int k n => K (.int k (bitsI k (· ^^^ ·) (if k.signed then -1 else k.max) n))
  | .not, .bool b => K (.bool (!b))
  | _, _ => False

def vConv (dst : TK) (x : Value) (K : Value → Prop) : Prop :=
  match dst, x with
  | .int k, .int _ n => K (.int k (k.wrap n))
  | .string, .string s => K (.string s)
  | _, _ => False

def bnd (v : Option Value) (dflt y : Nat) (K : Nat → Prop) : Prop :=
  match v with
  | none => K dflt
  | some (.int _ i) => 0 ≤ i ∧ i ≤ (y : Int) ∧ K i.toNat
  | _ => False

def vSlice (t : TK) (x : Value) (lo hi : Option Value) (K : Value → Prop) : Prop :=
  match t, x with
  | .string, .string s => bnd hi s.size s.size fun h => bnd lo 0 h fun l => K (.string (s.extract l h))
  | .slice es, .slice a len cap => bnd hi len cap fun h => bnd lo 0 h fun l => K (.slice (if cap = l then a else a.map (·.add (l * es))) (h - l) (cap - l))
  | .arr n es, .pointer (some a) => bnd hi n n fun h => bnd lo 0 h fun l => K (.slice (some (if n = l then a else a.add (l * es))) (h - l) (n - l))
  | _, _ => False

def vSlice3 (t : TK) (x : Value) (lo : Option Value) (hi mx : Value) (K : Value → Prop) : Prop :=
  match t, x with
  | .slice es, .slice a len cap => bnd (some mx) cap cap fun m => bnd (some hi) m m fun h => bnd lo 0 h fun l => K (.slice (if m = l then a else a.map (·.add (l * es))) (h - l) (m - l))
  | _, _ => False

def vFA (off : Option Nat) (x : Value) (K : Value → Prop) : Prop :=
  match off, x with
  | some off, .pointer (some a) => K (.pointer (some (a.add off)))
  | _, _ => False

def vIA (t : TK) (x i : Value) (K : Value → Prop) : Prop :=
  match t, x, i with
  | .slice es, .slice (some a) len _, .int _ n => 0 ≤ n ∧ n < (len : Int) ∧ K (.pointer (some (a.add (n.toNat * es))))
  | .arr len es, .pointer (some a), .int _ n => 0 ≤ n ∧ n < (len : Int) ∧ K (.pointer (some (a.add (n.toNat * es))))
  | _, _, _ => False

def vPart (d : LD) (cs : Array Value) (off : Nat) (K : Value → Prop) : Prop :=
  match d with
  | .one => match cs.toList[off]? with
    | some v => K v
    | none => False
  | .agg n => K (.agg ((cs.toList.drop off).take n).toArray)
  | .bad => False

def vIx (t : TK) (d : LD) (x i : Value) (K : Value → Prop) : Prop :=
  match t, x, i with
  | .string, .string s, .int _ n => 0 ≤ n ∧ match s.data.toList[n.toNat]? with
    | some b => K (.int .u8 b.toNat)
    | none => False
  | .arr len es, .agg cs, .int _ n => 0 ≤ n ∧ n < (len : Int) ∧ vPart d cs (n.toNat * es) K
  | _, _, _ => False

def vField (f : Option (LD × Nat)) (x : Value) (K : Value → Prop) : Prop :=
  match f, x with
  | some (d, off), .agg cs => vPart d cs off K
  | _, _ => False

def vExt (x : Value) (i : Nat) (K : Value → Prop) : Prop :=
  match x with
  | .tuple vs => match vs.toList[i]? with
    | some v => K v
    | none => False
  | _ => False

def vLen (t : TK) (x : Value) (K : Value → Prop) : Prop :=
  match t, x with
  | .string, .string s => K (.int .i64 s.size)
  | .arr n _, _ => K (.int .i64 n)
  | .slice _, .slice _ n _ => K (.int .i64 n)
  | _, _ => False

def vCap (t : TK) (x : Value) (K : Value → Prop) : Prop :=
  match t, x with
  | .slice _, .slice _ _ n => K (.int .i64 n)
  | _, _ => False

def vMin (x : Value) : List Value → (Value → Prop) → Prop
  | [], K => K x
  | y :: r, K => match x, y with
    | .int k a, .int _ b => vMin (.int k (if b < a then b else a)) r K
    | _, _ => False

def vMax (x : Value) : List Value → (Value → Prop) → Prop
  | [], K => K x
  | y :: r, K => match x, y with
    | .int k a, .int _ b => vMax (.int k (if b > a then b else a)) r K
    | _, _ => False

def conc (P : Program) (t : TypeId) : Bool :=
  match P.underlying t with
  | some (.interface _) => false
  | some _ => true
  | none => false

def vIface (ok : Bool) (t : TypeId) (x : Value) (K : Value → Prop) : Prop :=
  match ok with
  | true => K (.iface t x)
  | false => False

def spl (z : List Value) (o : Nat) (cs : List Value) : List Value := z.take o ++ cs ++ z.drop (o + cs.length)

def fillV (place : Nat → Option (Nat × Nat)) (cells : List Value) : List (Nat × Value) → (List Value → Prop) → Prop
  | [], K => K cells
  | (i, v) :: r, K => match place i with
    | some (off, size) => v.cells.size = size ∧ fillV place (spl cells off v.cells.toList) r K
    | none => False

def fieldPlaces (P : Program) (t : TypeId) (i : Nat) : Option (Nat × Nat) :=
  match P.underlying t with
  | some (.struct fs) => match fs.toList[i]? with
    | some f => some (f.offset, cellsOf P f.type)
    | none => none
  | some (.array n e) => bif Nat.ble n i then none else some (i * cellsOf P e, cellsOf P e)
  | _ => none

def buildOK (P : Program) (t : TypeId) (z : Nat) : Bool :=
  match P.underlying t with
  | some (.struct fs) => fs.toList.all fun f => (P.info? f.type).isSome && Nat.ble (f.offset + cellsOf P f.type) z
  | some (.array n e) => (P.info? e).isSome && Nat.ble (n * cellsOf P e) z
  | _ => false

def vBuild (P : Program) (t : TypeId) (parts : List (Nat × Value)) (K : Value → Prop) : Prop :=
  match zc P t with
  | some z => match buildOK P t z.size with
    | true => fillV (fieldPlaces P t) z.toList parts fun cs => K (.agg cs.toArray)
    | false => False
  | none => False

def vUSD (x : Value) (K : Value → Prop) : Prop :=
  match x with
  | .slice none _ _ => K (.pointer none)
  | .slice (some a) _ c => c ≠ 0 ∧ K (.pointer (some a))
  | _ => False

def pureOp (P : Program) (op : Op) (ρ : Env) (K : Value → Prop) : Prop :=
  match op with
  | .move x => K (ev ρ x)
  | .assign x => K (ev ρ x)
  | .pick c a b => vBool (ev ρ c) fun t => K (bif t then ev ρ a else ev ρ b)
  | .nilCheck x => vNilP P (ev ρ x) K
  | .binOp op t x y _ => vBinP P t (tkB P t y) op (ev ρ x) (ev ρ y) K
  | .unOp op _ x => vUn op (ev ρ x) K
  | .convert s d x => match P.underlying s with
    | some _ => vConv (tk P d) (ev ρ x) K
    | none => False
  | .makeInterface t x => vIface (conc P t) t (ev ρ x) K
  | .makeFunc fn first cap => K (.func fn (first.toList.map (ev ρ)).toArray (cap.toList.map (ev ρ)).toArray)
  | .slice t x lo hi none => vSlice (tk P t) (ev ρ x) (lo.map (ev ρ)) (hi.map (ev ρ)) K
  | .slice t x lo (some hi) (some mx) => vSlice3 (tk P t) (ev ρ x) (lo.map (ev ρ)) (ev ρ hi) (ev ρ mx) K
  | .fieldAddr s x f => vFA (fa P s f) (ev ρ x) K
  | .field s x f => vField (fv P s f) (ev ρ x) K
  | .indexAddr t x i => vIA (tk P t) (ev ρ x) (ev ρ i) K
  | .index t x i => vIx (tk P t) ((elemOf P t).elim .bad (ldk P)) (ev ρ x) (ev ρ i) K
  | .extract x i => vExt (ev ρ x) i K
  | .build t parts => vBuild P t (parts.toList.map fun (i, x) => (i, ev ρ x)) K
  | .call { callee := .builtin .len, args := args, argTypes := ts } => match args.toList, ts.toList with
    | [x], [t] => vLen (tk P t) (ev ρ x) K
    | _, _ => False
  | .call { callee := .builtin .cap, args := args, argTypes := ts } => match args.toList, ts.toList with
    | [x], [t] => vCap (tk P t) (ev ρ x) K
    | _, _ => False
  | .call { callee := .builtin .unsafeSliceData, args := args, argTypes := _ } => match args.toList with
    | [x] => vUSD (ev ρ x) K
    | _ => False
  | .call { callee := .builtin .min, args := args, argTypes := _ } => match args.toList with
    | x :: r => vMin (ev ρ x) (r.map (ev ρ)) K
    | _ => False
  | .call { callee := .builtin .max, args := args, argTypes := _ } => match args.toList with
    | x :: r => vMax (ev ρ x) (r.map (ev ρ)) K
    | _ => False
  | _ => False

end Go.V

/-
  The engine, part 2: the pure operations are sound. Own work.
-/
set_option linter.unusedVariables false
set_option linter.unusedSimpArgs false
namespace Go.V
open Go Go.RowKit

def Yv (P : Program) (s : Sem Value) (K : Value → Prop) : Prop := ∃ v, K v ∧ ∀ w, s.run P w = .ok v w

theorem run_bind_ok {α β : Type} {P : Program} {s : Sem α} {f : α → Sem β} {w w' : World} {a : α} (h : s.run P w = .ok a w') : (s >>= f).run P w = (f a).run P w' := by
  rw [Sem.run_bind, h]; rfl

theorem run_und {P : Program} {t : TypeId} {d : TypeDesc} (h : P.underlying t = some d) (w : World) : (underlying t).run P w = .ok d w := by
  simp [underlying, program, Sem.run_bind, Sem.run, Result.andThen, h]

theorem run_ti {P : Program} {t : TypeId} {d : TypeInfo} (h : P.info? t = some d) (w : World) : (typeInfo t).run P w = .ok d w := by
  simp [typeInfo, program, Sem.run_bind, Sem.run, Result.andThen, h]

theorem run_size {P : Program} {t : TypeId} {d : TypeInfo} (h : P.info? t = some d) (w : World) : (sizeOf t).run P w = .ok d.size w := by
  unfold sizeOf
  rw [run_bind_ok (run_ti h w)]; rfl

theorem vBool_out {v : Value} {K : Bool → Prop} (h : vBool v K) : ∃ b, v = .bool b ∧ K b := by
  cases v <;> simp [vBool] at h
  exact ⟨_, rfl, h⟩

theorem guard_plain {P : Program} {op : BinOp} {t : TypeId} {x y : Operand} {a b : Value} (h : ∀ cs, a ≠ .agg cs) (h' : a ≠ .nilIface) (w : World) :
    (eqGuard op t x y a b).run P w = .ok () w := by
  unfold eqGuard
  cases op <;> first
    | rfl
    | (cases a <;> first | rfl | exact absurd rfl h' | exact absurd rfl (h _))

theorem vInt_out {P : Program} {op : BinOp} {t : TypeId} {k k' : IntKind} {a b : Int} {K : Value → Prop} (h : vInt op k a k' b K) :
    Yv P (binOp op t (.int k a) (.int k' b)) K := by
  unfold vInt at h
  cases op <;> simp only at h
  case shl => exact ⟨_, h.2, fun w => by simp [binOp, Op.shift, Int.not_lt.2 h.1, Sem.run_pure]⟩
  case shr => exact ⟨_, h.2, fun w => by simp [binOp, Op.shift, Int.not_lt.2 h.1, Sem.run_pure]⟩
  case quo => obtain ⟨rfl, h1, h2⟩ := h; exact ⟨_, h2, fun w => by simp [binOp, Op.intDiv, h1, Sem.run_pure]⟩
  case rem => obtain ⟨rfl, h1, h2⟩ := h; exact ⟨_, h2, fun w => by simp [binOp, Op.intDiv, h1, Sem.run_pure]⟩
  all_goals
    obtain ⟨rfl, h2⟩ := h
    exact ⟨_, h2, fun w => by simp [binOp, Op.intArith, Op.intBits, Op.intCmp, Sem.run_pure, bitsI]⟩

theorem vStr_out {P : Program} {op : BinOp} {t : TypeId} {a b : ByteArray} {K : Value → Prop} (h : vStr op a b K) :
    Yv P (binOp op t (.string a) (.string b)) K := by
  unfold vStr at h
  cases op <;> simp only at h <;> first
    | exact h.elim
    | (exact ⟨_, h, fun w => by simp [binOp, Op.stringOp, Sem.run_pure, ByteArray.toList_eq]⟩)
    | skip
  refine ⟨_, h.2, fun w => ?_⟩
  have h1 := h.1
  simp only [binOp, Op.stringOp]
  rw [if_neg (by simp [IntKind.max, IntKind.signed, IntKind.bits]; omega)]
  rfl

theorem vEqB_out {P : Program} {op : BinOp} {b : Bool} {K : Value → Prop} {s : Sem Bool} (h : vEqB op b K) (hs : ∀ w, s.run P w = .ok b w) :
    (op = .eql ∧ Yv P (do pure (.bool (← s))) K) ∨ (op = .neq ∧ Yv P (do pure (.bool (!(← s)))) K) := by
  unfold vEqB at h
  split at h
  · exact .inl ⟨rfl, _, h, fun w => by rw [run_bind_ok (hs w)]; rfl⟩
  · exact .inr ⟨rfl, _, h, fun w => by rw [run_bind_ok (hs w)]; rfl⟩
  · exact h.elim

theorem eq_bool {P : Program} {t : TypeId} {a b : Bool} (h : P.underlying t = some .bool) (w : World) : (Op.equal t (.bool a) (.bool b)).run P w = .ok (a == b) w := by
  unfold Op.equal Op.maxDepth Op.equalIn
  rw [run_bind_ok (run_und h w)]; rfl

theorem eq_ptr_none {P : Program} {t e : TypeId} {b : Option Addr} (h : P.underlying t = some (.pointer e)) (w : World) : (Op.equal t (.pointer none) (.pointer b)).run P w = .ok b.isNone w := by
  unfold Op.equal Op.maxDepth Op.equalIn
  rw [run_bind_ok (run_und h w)]; rfl
theorem eq_ptr_none' {P : Program} {t e : TypeId} {a : Addr} (h : P.underlying t = some (.pointer e)) (w : World) : (Op.equal t (.pointer (some a)) (.pointer none)).run P w = .ok false w := by
  unfold Op.equal Op.maxDepth Op.equalIn
  rw [run_bind_ok (run_und h w)]; rfl
theorem eq_sl_none {P : Program} {t e : TypeId} {b : Option Addr} {n m n' m' : Nat} (h : P.underlying t = some (.slice e)) (w : World) : (Op.equal t (.slice none n m) (.slice b n' m')).run P w = .ok b.isNone w := by
  unfold Op.equal Op.maxDepth Op.equalIn
  rw [run_bind_ok (run_und h w)]; rfl
theorem eq_sl_none' {P : Program} {t e : TypeId} {a : Addr} {n m n' m' : Nat} (h : P.underlying t = some (.slice e)) (w : World) : (Op.equal t (.slice (some a) n m) (.slice none n' m')).run P w = .ok false w := by
  unfold Op.equal Op.maxDepth Op.equalIn
  rw [run_bind_ok (run_und h w)]; rfl
theorem eq_map_none {P : Program} {t e k : TypeId} {b : Option Nat} (h : P.underlying t = some (.map k e)) (w : World) : (Op.equal t (.map none) (.map b)).run P w = .ok b.isNone w := by
  unfold Op.equal Op.maxDepth Op.equalIn
  rw [run_bind_ok (run_und h w)]; rfl
theorem eq_map_none' {P : Program} {t e k : TypeId} {a : Nat} (h : P.underlying t = some (.map k e)) (w : World) : (Op.equal t (.map (some a)) (.map none)).run P w = .ok false w := by
  unfold Op.equal Op.maxDepth Op.equalIn
  rw [run_bind_ok (run_und h w)]; rfl
theorem eq_fn_nil {P : Program} {t : TypeId} {p r : Array TypeId} {v : Bool} (h : P.underlying t = some (.func p r v)) (w : World) : (Op.equal t .nilFunc .nilFunc).run P w = .ok true w := by
  unfold Op.equal Op.maxDepth Op.equalIn
  rw [run_bind_ok (run_und h w)]; rfl
theorem eq_fn_nil' {P : Program} {t : TypeId} {p r : Array TypeId} {v : Bool} {f : Fn} {a b : Array Value} (h : P.underlying t = some (.func p r v)) (w : World) : (Op.equal t (.func f a b) .nilFunc).run P w = .ok false w := by
  unfold Op.equal Op.maxDepth Op.equalIn
  rw [run_bind_ok (run_und h w)]; rfl

theorem tk_bool {P : Program} {t : TypeId} (h : tk P t = .bool) : P.underlying t = some .bool := by
  unfold tk at h
  split at h <;> first | assumption | (split at h <;> cases h) | cases h
theorem tk_ptr {P : Program} {t : TypeId} {b : Bool} (h : tk P t = .ptr b) : ∃ e i, P.underlying t = some (.pointer e) ∧ P.info? e = some i ∧ b = !(Nat.beq i.size 0) := by
  unfold tk at h
  split at h <;> first | cases h | (split at h <;> first | (cases h; exact ⟨_, _, by assumption, by assumption, rfl⟩) | cases h)
theorem tk_slice {P : Program} {t : TypeId} {n : Nat} (h : tk P t = .slice n) : ∃ e i, P.underlying t = some (.slice e) ∧ P.info? e = some i ∧ i.size = n := by
  unfold tk at h
  split at h <;> first | cases h | (split at h <;> first | (cases h; exact ⟨_, _, by assumption, by assumption, rfl⟩) | cases h)
theorem tk_arr {P : Program} {t : TypeId} {n m : Nat} (h : tk P t = .arr n m) : ∃ e i, P.underlying t = some (.array n e) ∧ P.info? e = some i ∧ i.size = m := by
  unfold tk at h
  split at h <;> first | cases h | (split at h <;> first | (cases h; exact ⟨_, _, by assumption, by assumption, rfl⟩) | cases h)
theorem tk_map {P : Program} {t : TypeId} (h : tk P t = .map) : ∃ k e, P.underlying t = some (.map k e) := by
  unfold tk at h
  split at h <;> first | exact ⟨_, _, by assumption⟩ | (split at h <;> cases h) | cases h
theorem tk_func {P : Program} {t : TypeId} (h : tk P t = .func) : ∃ p r v, P.underlying t = some (.func p r v) := by
  unfold tk at h
  split at h <;> first | exact ⟨_, _, _, by assumption⟩ | (split at h <;> cases h) | cases h
theorem tk_string {P : Program} {t : TypeId} (h : tk P t = .string) : P.underlying t = some .string := by
  unfold tk at h
  split at h <;> first | assumption | (split at h <;> cases h) | cases h
theorem tk_int {P : Program} {t : TypeId} {k : IntKind} (h : tk P t = .int k) : P.underlying t = some (.int k) := by
  unfold tk at h
  split at h <;> first | (cases h; assumption) | (split at h <;> cases h) | cases h

theorem tkB_ne {P : Program} {t : TypeId} {y : Operand} {k : TK} (h : tkB P t y = k) (hk : k ≠ .inil) : tk P t = k := by
  unfold tkB at h
  split at h
  · exact absurd h.symm hk
  · exact h
theorem tkB_inil {P : Program} {t : TypeId} {y : Operand} (h : tkB P t y = .inil) : (∃ ms, P.underlying t = some (.interface ms)) ∧ y = .const .nilIface := by
  unfold tkB at h
  split at h
  · rename_i hk
    refine ⟨?_, rfl⟩
    unfold tk at hk
    split at hk <;> first | exact ⟨_, by assumption⟩ | (split at hk <;> cases hk) | cases hk
  · rename_i k _ _
    exfalso
    unfold tk at h
    split at h <;> first | cases h | (split at h <;> cases h)
theorem eq_if_nil {P : Program} {t : TypeId} {ms : Array (String × TypeId)} (h : P.underlying t = some (.interface ms)) (w : World) : (Op.equal t .nilIface .nilIface).run P w = .ok true w := by
  unfold Op.equal Op.maxDepth Op.equalIn
  rw [run_bind_ok (run_und h w)]; rfl
theorem eq_if_nil' {P : Program} {t : TypeId} {ms : Array (String × TypeId)} {a : TypeId} {b : Value} (h : P.underlying t = some (.interface ms)) (w : World) : (Op.equal t (.iface a b) .nilIface).run P w = .ok false w := by
  unfold Op.equal Op.maxDepth Op.equalIn
  rw [run_bind_ok (run_und h w)]; rfl

theorem vBin_out {P : Program} {op : BinOp} {t : TypeId} {ox oy : Operand} {x y : Value} {K : Value → Prop} (h : vBin (tkB P t oy) op x y K) :
    Yv P (do eqGuard op t ox oy x y; binOp op t x y) K := by
  have fin : ∀ {b : Bool}, vEqB op b K → (∀ w, (Op.equal t x y).run P w = .ok b w) → (∀ cs, x ≠ .agg cs) → x ≠ .nilIface →
      (binOp .eql t x y = (do pure (.bool (← Op.equal t x y)))) → (binOp .neq t x y = (do pure (.bool (!(← Op.equal t x y))))) →
      Yv P (do eqGuard op t ox oy x y; binOp op t x y) K := by
    intro b hb hw h1 h2 e1 e2
    rcases vEqB_out (s := Op.equal t x y) hb hw with ⟨rfl, v, hv, hr⟩ | ⟨rfl, v, hv, hr⟩
    · exact ⟨v, hv, fun w => by rw [run_bind_ok (guard_plain h1 h2 w), e1]; exact hr w⟩
    · exact ⟨v, hv, fun w => by rw [run_bind_ok (guard_plain h1 h2 w), e2]; exact hr w⟩
  unfold vBin at h
  split at h
  · obtain ⟨v, hv, hr⟩ := vInt_out (P := P) (t := t) h
    exact ⟨v, hv, fun w => by rw [run_bind_ok (guard_plain (by simp) (by simp) w)]; exact hr w⟩
  · obtain ⟨v, hv, hr⟩ := vStr_out (P := P) (t := t) h
    exact ⟨v, hv, fun w => by rw [run_bind_ok (guard_plain (by simp) (by simp) w)]; exact hr w⟩
  · split at h
    · rename_i ht; exact fin h (eq_bool (tk_bool (tkB_ne ht (by simp)))) (by simp) (by simp) rfl rfl
    · exact h.elim
  · split at h
    · rename_i ht; obtain ⟨e, i, he, _, _⟩ := tk_ptr (tkB_ne ht (by simp)); exact fin h (eq_ptr_none he) (by simp) (by simp) rfl rfl
    · exact h.elim
  · split at h
    · rename_i ht; obtain ⟨e, i, he, _, _⟩ := tk_ptr (tkB_ne ht (by simp)); exact fin h (eq_ptr_none' he) (by simp) (by simp) rfl rfl
    · exact h.elim
  · split at h
    · rename_i ht; obtain ⟨e, i, he, _, _⟩ := tk_slice (tkB_ne ht (by simp)); exact fin h (eq_sl_none he) (by simp) (by simp) rfl rfl
    · exact h.elim
  · split at h
    · rename_i ht; obtain ⟨e, i, he, _, _⟩ := tk_slice (tkB_ne ht (by simp)); exact fin h (eq_sl_none' he) (by simp) (by simp) rfl rfl
    · exact h.elim
  · split at h
    · rename_i ht; obtain ⟨k, e, he⟩ := tk_map (tkB_ne ht (by simp)); exact fin h (eq_map_none he) (by simp) (by simp) rfl rfl
    · exact h.elim
  · split at h
    · rename_i ht; obtain ⟨k, e, he⟩ := tk_map (tkB_ne ht (by simp)); exact fin h (eq_map_none' he) (by simp) (by simp) rfl rfl
    · exact h.elim
  · split at h
    · rename_i ht; obtain ⟨p, r, v, he⟩ := tk_func (tkB_ne ht (by simp)); exact fin h (eq_fn_nil' he) (by simp) (by simp) rfl rfl
    · exact h.elim
  · split at h
    · rename_i ht; obtain ⟨p, r, v, he⟩ := tk_func (tkB_ne ht (by simp)); exact fin h (eq_fn_nil he) (by simp) (by simp) rfl rfl
    · exact h.elim
  · split at h
    · rename_i ht; obtain ⟨⟨ms, he⟩, _⟩ := tkB_inil ht; exact fin h (eq_if_nil' he) (by simp) (by simp) rfl rfl
    · exact h.elim
  · split at h
    · rename_i ht
      obtain ⟨⟨ms, he⟩, rfl⟩ := tkB_inil ht
      have hg : ∀ w, (eqGuard op t ox (.const .nilIface) .nilIface .nilIface).run P w = .ok () w := by
        intro w
        unfold eqGuard
        cases op <;> first
          | rfl
          | (cases ox <;> rfl)
      rcases vEqB_out (s := Op.equal t .nilIface .nilIface) h (eq_if_nil he) with ⟨rfl, v, hv, hr⟩ | ⟨rfl, v, hv, hr⟩
      · exact ⟨v, hv, fun w => by rw [run_bind_ok (hg w)]; exact hr w⟩
      · exact ⟨v, hv, fun w => by rw [run_bind_ok (hg w)]; exact hr w⟩
    · exact h.elim
  · exact h.elim

theorem vAggEq_out {P : Program} {op : BinOp} {t : TypeId} {ox oy : Operand} {x y : Value} {K : Value → Prop} (h : vAggEq P t op x y K) :
    Yv P (do eqGuard op t ox oy x y; binOp op t x y) K := by
  unfold vAggEq at h
  split at h
  · rename_i xs ys
    obtain ⟨m, D, D', la, lb, hm, hk, fx, fy, hx, hy, hg, hb⟩ := h
    have key : ∃ r : Bool, (r = true ↔ la = lb) ∧ ∀ w, (Op.equal t (.agg xs) (.agg ys)).run P w = .ok r w := by
      have each : ∀ w : World, ∃ r : Bool, (Op.equal t (.agg xs) (.agg ys)).run P w = .ok r w ∧ (r = true ↔ la = lb) := by
        intro w
        obtain ⟨r, hr, hiff⟩ := run_equalIn_deep (10000 - m) m t hk w D D' (.agg xs) (.agg ys) la lb fx fy hx hy
        exact ⟨r, by rw [show 10000 - m + m = 10000 by omega] at hr; exact hr, hiff⟩
      by_cases e : la = lb
      · refine ⟨true, by simp [e], fun w => ?_⟩
        obtain ⟨r, hr, hiff⟩ := each w
        rw [hr, hiff.2 e]
      · refine ⟨false, by simp [e], fun w => ?_⟩
        obtain ⟨r, hr, hiff⟩ := each w
        cases r
        · exact hr
        · exact absurd (hiff.1 rfl) e
    obtain ⟨r, hiff, hr⟩ := key
    have guard : ∀ w, (eqGuard op t ox oy (.agg xs) (.agg ys)).run P w = .ok () w := by
      intro w
      unfold eqGuard
      cases op <;> first
        | rfl
        | (simp only [Bool.not_true, Bool.false_eq_true, if_false]
           have e : ∀ (A : Sem Unit), (do let p ← program; if (!p.eqGuardType p.depth t) = true then pure () else A : Sem Unit).run P w = .ok () w := by
             intro A
             show (if (!P.eqGuardType P.depth t) = true then pure () else A : Sem Unit).run P w = .ok () w
             rw [hg]; rfl
           exact e _)
    rcases vEqB_out (s := Op.equal t (.agg xs) (.agg ys)) (hb r hiff) hr with ⟨rfl, v, hv, hr⟩ | ⟨rfl, v, hv, hr⟩
    · exact ⟨v, hv, fun w => by rw [run_bind_ok (guard w)]; exact hr w⟩
    · exact ⟨v, hv, fun w => by rw [run_bind_ok (guard w)]; exact hr w⟩
  · exact h.elim

theorem vBinP_out {P : Program} {op : BinOp} {t : TypeId} {ox oy : Operand} {x y : Value} {K : Value → Prop} (h : vBinP P t (tkB P t oy) op x y K) :
    Yv P (do eqGuard op t ox oy x y; binOp op t x y) K := by
  unfold vBinP at h
  split at h
  · exact vAggEq_out h
  · exact vAggEq_out h
  · exact vBin_out h

theorem vUn_out {P : Program} {op : UnOp} {x : Value} {K : Value → Prop} (h : vUn op x K) : Yv P (Op.unary op x) K := by
  unfold vUn at h
  split at h
  · exact ⟨_, h, fun w => by simp [Op.unary, Op.intArith, Sem.run_pure]⟩
  · exact ⟨_, h, fun w => by simp [Op.unary, Op.intBits, Sem.run_pure, bitsI]⟩
  · exact ⟨_, h, fun w => by simp [Op.unary, Sem.run_pure]⟩
  · exact h.elim

theorem vConv_out {P : Program} {s d : TypeId} (hs : (P.underlying s).isSome = true) {x : Value} {K : Value → Prop} (h : vConv (tk P d) x K) : Yv P (convert s d x) K := by
  obtain ⟨sd, hsd⟩ := Option.isSome_iff_exists.1 hs
  unfold vConv at h
  split at h
  · rename_i k _ n hk
    refine ⟨_, h, fun w => ?_⟩
    unfold convert
    rw [run_bind_ok (run_und hsd w), run_bind_ok (run_und (tk_int hk) w)]
    cases sd <;> rfl
  · rename_i s' hk
    refine ⟨_, h, fun w => ?_⟩
    unfold convert
    rw [run_bind_ok (run_und hsd w), run_bind_ok (run_und (tk_string hk) w)]
    cases sd <;> rfl
  · exact h.elim


theorem bnd_out {P : Program} {v : Option Value} {d y : Nat} {K : Nat → Prop} (h : bnd v d y K) :
    ∃ r, K r ∧ ((v = none ∧ r = d) ∨ ∃ x, v = some x ∧ ∀ code w, (Instr.sliceBound x y code).run P w = .ok r w) := by
  unfold bnd at h
  split at h
  · exact ⟨_, h, .inl ⟨rfl, rfl⟩⟩
  · obtain ⟨h1, h2, h3⟩ := h
    exact ⟨_, h3, .inr ⟨_, rfl, fun code w => by simp [Instr.sliceBound, asIntOf, Sem.run_bind, Sem.run_pure, Result.andThen, h1, h2]⟩⟩
  · exact h.elim

theorem bounds_out {P : Program} {lo hi : Option Value} {isS : Bool} {len cap : Nat} {K : Nat → Nat → Prop}
    (h : bnd hi len cap fun h => bnd lo 0 h fun l => K h l) :
    ∃ h l, K h l ∧ ∀ w, (Instr.sliceBounds isS len cap lo hi none).run P w = .ok (l, h, cap) w := by
  obtain ⟨h', hk, hh⟩ := bnd_out (P := P) h
  obtain ⟨l, hk2, hl⟩ := bnd_out (P := P) hk
  refine ⟨h', l, hk2, fun w => ?_⟩
  unfold Instr.sliceBounds
  rcases hh with ⟨rfl, rfl⟩ | ⟨x, rfl, hx⟩ <;> rcases hl with ⟨rfl, rfl⟩ | ⟨y, rfl, hy⟩ <;>
    simp [Sem.run_bind, Sem.run_pure, Result.andThen, *]

theorem vSlice_out {P : Program} {t : TypeId} {x : Value} {lo hi : Option Value} {K : Value → Prop} (h : vSlice (tk P t) x lo hi K) :
    Yv P (Instr.sliceAt t x lo hi none) K := by
  unfold vSlice at h
  split at h
  · rename_i s ht
    obtain ⟨h', l, hk, hb⟩ := bounds_out (P := P) (isS := false) h
    refine ⟨_, hk, fun w => ?_⟩
    unfold Instr.sliceAt
    rw [run_bind_ok (run_und (tk_string ht) w)]
    simp only []
    unfold Instr.slice
    rw [run_bind_ok (run_und (tk_string ht) w)]
    simp [Sem.run_bind, hb w, Sem.run_pure, Result.andThen]
  · rename_i es a len cap ht
    obtain ⟨e, i, he, hi, rfl⟩ := tk_slice ht
    obtain ⟨h', l, hk, hb⟩ := bounds_out (P := P) (isS := true) h
    refine ⟨_, hk, fun w => ?_⟩
    unfold Instr.sliceAt
    rw [run_bind_ok (run_und he w)]
    simp only []
    unfold Instr.slice
    rw [run_bind_ok (run_und he w)]
    simp [Sem.run_bind, hb w, Sem.run_pure, Result.andThen, run_size hi w]
  · rename_i n es a ht
    obtain ⟨e, i, he, hi, rfl⟩ := tk_arr ht
    obtain ⟨h', l, hk, hb⟩ := bounds_out (P := P) (isS := false) h
    refine ⟨_, hk, fun w => ?_⟩
    unfold Instr.sliceAt
    rw [run_bind_ok (run_und he w)]
    simp [Sem.run_bind, Instr.sureAddr, hb w, Sem.run_pure, Result.andThen, run_size hi w]
  · exact h.elim

theorem vSlice3_out {P : Program} {t : TypeId} {x hi mx : Value} {lo : Option Value} {K : Value → Prop} (h : vSlice3 (tk P t) x lo hi mx K) :
    Yv P (Instr.sliceAt t x lo (some hi) (some mx)) K := by
  unfold vSlice3 at h
  split at h
  · rename_i es a len cap ht
    obtain ⟨e, i, he, hinf, rfl⟩ := tk_slice ht
    obtain ⟨m, hk, hm⟩ := bnd_out (P := P) h
    obtain ⟨h', hk2, hh⟩ := bnd_out (P := P) hk
    obtain ⟨l, hk3, hl⟩ := bnd_out (P := P) hk2
    refine ⟨_, hk3, fun w => ?_⟩
    have hb : ∀ w, (Instr.sliceBounds true len cap lo (some hi) (some mx)).run P w = .ok (l, h', m) w := by
      intro w
      unfold Instr.sliceBounds
      rcases hm with ⟨hz, _⟩ | ⟨z, hz, hmz⟩
      · cases hz
      rcases hh with ⟨hz2, _⟩ | ⟨z2, hz2, hmz2⟩
      · cases hz2
      cases hz; cases hz2
      rcases hl with ⟨rfl, rfl⟩ | ⟨y, rfl, hy⟩ <;>
        simp [Sem.run_bind, Sem.run_pure, Result.andThen, *]
    unfold Instr.sliceAt
    rw [run_bind_ok (run_und he w)]
    simp only []
    unfold Instr.slice
    rw [run_bind_ok (run_und he w)]
    simp [Sem.run_bind, hb w, Sem.run_pure, Result.andThen, run_size hinf w]
  · exact h.elim

theorem vFA_out {P : Program} {s : TypeId} {f : Nat} {x : Value} {K : Value → Prop} (h : vFA (fa P s f) x K) : Yv P (Instr.fieldAt s x f) K := by
  unfold vFA at h
  split at h
  · rename_i off a hf
    unfold fa at hf
    split at hf <;> try (cases hf; done)
    rename_i fs hu
    split at hf <;> try (cases hf; done)
    rename_i fd hfd
    split at hf <;> try (cases hf; done)
    rename_i i hi
    cases hz : Nat.beq i.size 0 <;> rw [hz] at hf <;> simp at hf
    subst hf
    have hz' : ¬ i.size = 0 := by intro e; rw [e] at hz; cases hz
    refine ⟨_, h, fun w => ?_⟩
    unfold Instr.fieldAt
    rw [run_bind_ok (run_und hu w)]
    simp [Sem.run_bind, Instr.sureAddr, hfd, fieldPlace, Sem.run_pure, Result.andThen, run_size hi w, hz']
  · exact h.elim

theorem vIA_out {P : Program} {t : TypeId} {x i : Value} {K : Value → Prop} (h : vIA (tk P t) x i K) : Yv P (Instr.indexAt t x i) K := by
  unfold vIA at h
  split at h
  · rename_i es a len _ _ n ht
    obtain ⟨e, i, he, hi, rfl⟩ := tk_slice ht
    obtain ⟨h1, h2, h3⟩ := h
    refine ⟨_, h3, fun w => ?_⟩
    unfold Instr.indexAt
    simp [Sem.run_bind, asIntOf, Sem.run_pure, Result.andThen, run_und he w, run_size hi w, h1, h2]
  · rename_i len es a _ n ht
    obtain ⟨e, i, he, hi, rfl⟩ := tk_arr ht
    obtain ⟨h1, h2, h3⟩ := h
    refine ⟨_, h3, fun w => ?_⟩
    unfold Instr.indexAt
    simp [Sem.run_bind, asIntOf, Instr.sureAddr, Sem.run_pure, Result.andThen, run_und he w, run_size hi w, h1, h2]
  · exact h.elim

theorem isAgg_one {P : Program} {t : TypeId} (h : ldk P t = .one) : ∀ w, (isAgg t).run P w = .ok false w := by
  intro w
  unfold ldk at h
  split at h <;> try (cases h; done)
  rename_i d i hn1 hn2 hu hi
  unfold isAgg
  rw [run_bind_ok (run_und hu w)]
  cases d <;> first | rfl | exact absurd rfl (hn1 _) | exact absurd rfl (hn2 _ _)

theorem isAgg_agg {P : Program} {t : TypeId} {n : Nat} (h : ldk P t = .agg n) : (∀ w, (isAgg t).run P w = .ok true w) ∧ ∃ i, P.info? t = some i ∧ i.size = n := by
  unfold ldk at h
  split at h <;> try (cases h; done)
  · rename_i i hu hi
    cases h
    refine ⟨fun w => ?_, i, hi, rfl⟩
    unfold isAgg
    rw [run_bind_ok (run_und hu w)]; rfl
  · rename_i i hu hi
    cases h
    refine ⟨fun w => ?_, i, hi, rfl⟩
    unfold isAgg
    rw [run_bind_ok (run_und hu w)]; rfl

theorem vPart_out {P : Program} {t : TypeId} {cs : Array Value} {off : Nat} {K : Value → Prop} (h : vPart (ldk P t) cs off K) : Yv P (part t cs off) K := by
  unfold vPart at h
  split at h
  · rename_i ht
    split at h
    · rename_i v hv
      refine ⟨_, h, fun w => ?_⟩
      unfold part
      have hv' : cs[off]? = some v := by rw [← hv]; simp
      rw [run_bind_ok (isAgg_one ht w)]
      simp [hv', Sem.run_pure]
    · exact h.elim
  · rename_i n ht
    obtain ⟨ha, i, hi, rfl⟩ := isAgg_agg ht
    refine ⟨_, h, fun w => ?_⟩
    unfold part
    rw [run_bind_ok (ha w)]
    simp only [if_true]
    rw [run_bind_ok (run_size hi w)]
    have : cs.extract off (off + i.size) = ((cs.toList.drop off).take i.size).toArray := by
      apply Array.toList_inj.1
      simp [Array.toList_extract, List.extract_eq_take_drop]
    rw [this]; rfl
  · exact h.elim

theorem vIx_out {P : Program} {t : TypeId} {x i : Value} {K : Value → Prop} (h : vIx (tk P t) ((elemOf P t).elim .bad (ldk P)) x i K) : Yv P (Instr.index t x i) K := by
  unfold vIx at h
  split at h
  · rename_i s _ n ht
    obtain ⟨h1, h2⟩ := h
    split at h2
    · rename_i b hb
      refine ⟨_, h2, fun w => ?_⟩
      have hlt : n.toNat < s.size := by
        have := (List.getElem?_eq_some_iff.1 hb).1
        show n.toNat < s.data.size
        simpa using this
      have hb' : s[n.toNat]? = some b := by
        rw [ByteArray.getElem?_lt' _ _ hlt, ← Lib.data_getElem? s _ hlt, hb]
      unfold Instr.index
      rw [run_bind_ok (a := (_, n)) (w' := w) rfl]
      simp only []
      rw [run_bind_ok (run_und (tk_string ht) w)]
      simp only [h1, if_true, hb']
      rfl
    · exact h2.elim
  · rename_i len es cs _ n ht
    obtain ⟨e, i, he, hi, rfl⟩ := tk_arr ht
    obtain ⟨h1, h2, h3⟩ := h
    have hel : elemOf P t = some e := by simp [elemOf, he]
    rw [hel] at h3
    obtain ⟨v, hv, hr⟩ := vPart_out h3
    refine ⟨v, hv, fun w => ?_⟩
    unfold Instr.index
    simp [Sem.run_bind, asIntOf, Sem.run_pure, Result.andThen, run_und he w, run_size hi w, h1, h2, hr w]
  · exact h.elim

theorem vField_out {P : Program} {s : TypeId} {f : Nat} {x : Value} {K : Value → Prop} (h : vField (fv P s f) x K) : Yv P (Instr.field s x f) K := by
  unfold vField at h
  split at h
  · rename_i d off cs hf
    unfold fv at hf
    split at hf <;> try (cases hf; done)
    rename_i fs hu
    split at hf <;> try (cases hf; done)
    rename_i fd hfd
    cases hf
    obtain ⟨v, hv, hr⟩ := vPart_out h
    refine ⟨v, hv, fun w => ?_⟩
    unfold Instr.field
    rw [run_bind_ok (run_und hu w)]
    simp [Sem.run_bind, hfd, asAgg, Sem.run_pure, Result.andThen, hr w]
  · exact h.elim

theorem vExt_out {P : Program} {x : Value} {i : Nat} {K : Value → Prop} (h : vExt x i K) : Yv P (Instr.extract x i) K := by
  unfold vExt at h
  split at h
  · rename_i vs
    split at h
    · rename_i v hv
      have hv' : vs[i]? = some v := by rw [← hv]; simp
      exact ⟨_, h, fun w => by simp [Instr.extract, hv', Sem.run_pure]⟩
    · exact h.elim
  · exact h.elim

theorem vLen_out {P : Program} {t : TypeId} {ty : TypeId} {x : Value} {K : Value → Prop} (h : vLen (tk P t) x K) : Yv P (Builtin.len_ #[t] ty #[x]) K := by
  unfold vLen at h
  split at h
  · rename_i s ht
    refine ⟨_, h, fun w => ?_⟩
    simp [Builtin.len_, Sem.run_bind, run_und (tk_string ht) w, Sem.run_pure, Result.andThen, goInt]
  · rename_i n es _ ht
    obtain ⟨e, i, he, hi, rfl⟩ := tk_arr ht
    refine ⟨_, h, fun w => ?_⟩
    simp [Builtin.len_, Sem.run_bind, run_und he w, Sem.run_pure, Result.andThen, goInt]
  · rename_i es a n c ht
    obtain ⟨e, i, he, hi, rfl⟩ := tk_slice ht
    refine ⟨_, h, fun w => ?_⟩
    simp [Builtin.len_, Sem.run_bind, run_und he w, Sem.run_pure, Result.andThen, goInt]
  · exact h.elim

theorem vCap_out {P : Program} {t : TypeId} {ty : TypeId} {x : Value} {K : Value → Prop} (h : vCap (tk P t) x K) : Yv P (Builtin.cap_ #[t] ty #[x]) K := by
  unfold vCap at h
  split at h
  · rename_i es a n c ht
    obtain ⟨e, i, he, hi, rfl⟩ := tk_slice ht
    refine ⟨_, h, fun w => ?_⟩
    simp [Builtin.cap_, Sem.run_bind, run_und he w, Sem.run_pure, Result.andThen, goInt]
  · exact h.elim

theorem vMin_out {P : Program} {K : Value → Prop} : ∀ (l : List Value) (x : Value), vMin x l K → Yv P (l.foldlM Builtin.min2 x) K
  | [], x, h => ⟨x, h, fun w => rfl⟩
  | y :: r, x, h => by
    unfold vMin at h
    split at h
    · obtain ⟨v, hv, hr⟩ := vMin_out r _ h
      refine ⟨v, hv, fun w => ?_⟩
      rw [List.foldlM_cons, run_bind_ok (a := _) (w' := w)]
      · exact hr w
      · simp [Builtin.min2, Sem.run_pure]
    · exact h.elim

theorem vMax_out {P : Program} {K : Value → Prop} : ∀ (l : List Value) (x : Value), vMax x l K → Yv P (l.foldlM Builtin.max2 x) K
  | [], x, h => ⟨x, h, fun w => rfl⟩
  | y :: r, x, h => by
    unfold vMax at h
    split at h
    · obtain ⟨v, hv, hr⟩ := vMax_out r _ h
      refine ⟨v, hv, fun w => ?_⟩
      rw [List.foldlM_cons, run_bind_ok (a := _) (w' := w)]
      · exact hr w
      · simp [Builtin.max2, Sem.run_pure]
    · exact h.elim

theorem vIface_out {P : Program} {t : TypeId} {x : Value} {K : Value → Prop} (h : vIface (conc P t) t x K) : Yv P (Instr.makeInterface t x) K := by
  unfold vIface at h
  split at h
  · rename_i hc
    unfold conc at hc
    split at hc
    · cases hc
    · rename_i d hn hd
      refine ⟨_, h, fun w => ?_⟩
      unfold Instr.makeInterface
      rw [run_bind_ok (run_und hd w)]
      cases d <;> first | rfl | exact absurd rfl (hn _)
    · cases hc
  · exact h.elim

theorem spl_length {z : List Value} {o : Nat} {cs : List Value} (h : o + cs.length ≤ z.length) : (spl z o cs).length = z.length := by
  simp [spl]; omega

theorem fold_spl (cs : List Value) : ∀ (z : Array Value) (o k : Nat), o + k + cs.length ≤ z.size →
    (cs.zipIdx k).foldl (fun zs (c, j) => zs.setIfInBounds (o + j) c) z = (spl z.toList (o + k) cs).toArray := by
  induction cs with
  | nil => intro z o k h; apply Array.toList_inj.1; simp [spl]
  | cons c cs ih =>
    intro z o k h
    simp only [List.length_cons] at h
    simp only [List.zipIdx_cons, List.foldl_cons]
    rw [ih _ _ _ (by simp; omega)]
    apply Array.toList_inj.1
    simp only [spl, Array.toList_setIfInBounds]
    rw [show o + (k + 1) = o + k + 1 from by omega]
    rw [List.take_set, List.drop_set_of_lt (by omega)]
    have : List.take (o + k + 1) z.toList = List.take (o + k) z.toList ++ [z.toList[o + k]'(by simp; omega)] := by
      rw [List.take_succ_eq_append_getElem]
    rw [this, List.set_append_right _ _ (by simp; omega)]
    simp only [List.length_take, Array.length_toList]
    rw [show o + k - min (o + k) z.size = 0 from by omega]
    simp only [List.set_cons_zero, List.append_assoc, List.cons_append, List.nil_append, List.length_cons]
    rw [show o + k + 1 + cs.length = o + k + (cs.length + 1) from by omega]

theorem fillV_out {place place' : Nat → Option (Nat × Nat)} (hp : ∀ i x, place i = some x → place' i = some x) {K : List Value → Prop} :
    ∀ (l : List (Nat × Value)) (cells : List Value), (∀ i off size, place i = some (off, size) → off + size ≤ cells.length) → fillV place cells l K →
    ∃ cs, K cs ∧ Instr.fill place' cells.toArray l = some cs.toArray
  | [], cells, _, h => ⟨cells, h, rfl⟩
  | (i, v) :: r, cells, hb, h => by
    unfold fillV at h
    split at h
    · rename_i off size hpl
      obtain ⟨h1, h2⟩ := h
      have hsz := hb _ _ _ hpl
      have hlen : (spl cells off v.cells.toList).length = cells.length := spl_length (by simp; omega)
      obtain ⟨cs, hk, hf⟩ := fillV_out hp r _ (fun i o s hh => by rw [hlen]; exact hb i o s hh) h2
      refine ⟨cs, hk, ?_⟩
      unfold Instr.fill
      rw [hp _ _ hpl]
      simp only []
      rw [if_neg (by simp [h1]; omega)]
      rw [← hf]
      congr 1
      rw [← Array.foldl_toList, Array.toList_zipIdx]
      have := fold_spl v.cells.toList cells.toArray off 0 (by simp; omega)
      simpa using this
    · exact h.elim

theorem zc_out {P : Program} {t : TypeId} {z : Array Value} (h : zc P t = some z) : ∃ i v, P.info? t = some i ∧ i.zero = some v ∧ v.cells = z ∧ ∀ w, (zeroValue t).run P w = .ok v w := by
  unfold zc at h
  cases hi : P.info? t with
  | none => simp [hi] at h
  | some i =>
    cases hz : i.zero with
    | none => simp [hi, hz] at h
    | some v =>
      simp [hi, hz] at h
      refine ⟨i, v, rfl, hz, h, fun w => ?_⟩
      unfold zeroValue
      rw [run_bind_ok (run_ti hi w)]
      simp [hz, Sem.run_pure]

theorem run_mapM_places {P : Program} (w : World) : ∀ (fs : List Field), (∀ f ∈ fs, (P.info? f.type).isSome = true) →
    (fs.mapM fun f => (do pure (f.offset, ← sizeOf f.type) : Sem (Nat × Nat))).run P w = .ok (fs.map fun f => (f.offset, cellsOf P f.type)) w
  | [], _ => rfl
  | f :: fs, h => by
    obtain ⟨i, hi⟩ := Option.isSome_iff_exists.1 (h f (by simp))
    rw [List.mapM_cons, run_bind_ok (a := (f.offset, cellsOf P f.type)) (w' := w)]
    · rw [run_bind_ok (run_mapM_places w fs (fun g hg => h g (by simp [hg])))]
      rfl
    · rw [run_bind_ok (run_size hi w)]
      simp [cellsOf, hi, Sem.run_pure]

theorem build_out {P : Program} {t : TypeId} {z : Array Value} {parts : Array (Nat × Operand)} {ρ : Env} {K : Value → Prop} (hz : zc P t = some z) (hok : buildOK P t z.size = true)
    (h : fillV (fieldPlaces P t) z.toList (parts.toList.map fun (i, x) => (i, ev ρ x)) fun cs => K (.agg cs.toArray)) :
    Yv P (Instr.build t (parts.map fun (i, x) => (i, ev ρ x))) K := by
  obtain ⟨i, v, hi, hzi, hvc, hrun⟩ := zc_out hz
  have hparts : (parts.map fun (i, x) => (i, ev ρ x)).toList = parts.toList.map fun (i, x) => (i, ev ρ x) := by simp
  unfold buildOK at hok
  split at hok
  · rename_i fs hu
    have hall : ∀ f ∈ fs.toList, (P.info? f.type).isSome = true ∧ f.offset + cellsOf P f.type ≤ z.size := by
      intro f hf
      have := List.all_eq_true.1 hok f hf
      simp only [Bool.and_eq_true] at this
      exact ⟨this.1, Nat.le_of_ble_eq_true this.2⟩
    have hpl : ∀ i off size, fieldPlaces P t i = some (off, size) → off + size ≤ z.toList.length := by
      intro i off size hh
      unfold fieldPlaces at hh
      rw [hu] at hh
      simp only [] at hh
      split at hh
      · rename_i f hf
        cases hh
        simpa using (hall f (List.mem_of_getElem? hf)).2
      · cases hh
    obtain ⟨cs, hk, hf⟩ := fillV_out (place' := ((fs.toList.map fun f => (f.offset, cellsOf P f.type)).toArray[·]?)) (by
      intro i x hx
      unfold fieldPlaces at hx
      rw [hu] at hx
      simp only [] at hx
      split at hx
      · rename_i f hf
        cases hx
        simp at hf ⊢
        exact ⟨f, hf, rfl, rfl⟩
      · cases hx) _ _ hpl h
    refine ⟨_, hk, fun w => ?_⟩
    unfold Instr.build
    rw [run_bind_ok (hrun w), run_bind_ok (run_und hu w)]
    simp only []
    rw [run_bind_ok (a := (fs.toList.map fun f => (f.offset, cellsOf P f.type)).toArray) (w' := w)]
    · rw [hparts, hvc]
      rw [show z = z.toList.toArray from by simp, hf]
      rfl
    · rw [Array.mapM_eq_mapM_toList]
      have := run_mapM_places (P := P) w fs.toList (fun f hf => (hall f hf).1)
      simp only [map_eq_pure_bind]
      rw [run_bind_ok this]
      rfl
  · rename_i n e hu
    simp only [Bool.and_eq_true] at hok
    obtain ⟨ie, hie⟩ := Option.isSome_iff_exists.1 hok.1
    have hle := Nat.le_of_ble_eq_true hok.2
    have hsz : cellsOf P e = ie.size := by simp [cellsOf, hie]
    have hpl : ∀ i off size, fieldPlaces P t i = some (off, size) → off + size ≤ z.toList.length := by
      intro i off size hh
      unfold fieldPlaces at hh
      rw [hu] at hh
      simp only [] at hh
      cases hb : Nat.ble n i <;> rw [hb] at hh <;> simp at hh
      obtain ⟨rfl, rfl⟩ := hh
      have : i < n := by
        rcases Nat.lt_or_ge i n with h' | h'
        · exact h'
        · rw [Nat.ble_eq_true_of_le h'] at hb; cases hb
      have h2 : (i + 1) * cellsOf P e ≤ n * cellsOf P e := Nat.mul_le_mul_right _ this
      rw [Nat.succ_mul] at h2
      simp; omega
    obtain ⟨cs, hk, hf⟩ := fillV_out (place' := fun i => some (i * ie.size, ie.size)) (by
      intro i x hx
      unfold fieldPlaces at hx
      rw [hu] at hx
      simp only [] at hx
      cases hb : Nat.ble n i <;> rw [hb] at hx <;> simp at hx
      rw [← hx, hsz]) _ _ hpl h
    refine ⟨_, hk, fun w => ?_⟩
    unfold Instr.build
    rw [run_bind_ok (hrun w), run_bind_ok (run_und hu w)]
    simp only []
    rw [run_bind_ok (run_size hie w)]
    rw [hparts, hvc]
    rw [show z = z.toList.toArray from by simp, hf]
    rfl
  · cases hok

theorem vUSD_out {P : Program} {ts : Array TypeId} {ty : TypeId} {x : Value} {K : Value → Prop} (h : vUSD x K) : Yv P (Builtin.unsafeSliceData_ ts ty #[x]) K := by
  unfold vUSD at h
  split at h
  · exact ⟨_, h, fun w => rfl⟩
  · rename_i a n c
    obtain ⟨hc, hk⟩ := h
    refine ⟨_, hk, fun w => ?_⟩
    obtain ⟨k, rfl⟩ : ∃ k, c = k + 1 := ⟨c - 1, by omega⟩
    rfl
  · exact h.elim

theorem method_ahead {P : Program} {t : TypeId} {name : String} {f : FuncId} (h : methodOf P t name = some f) (v : Value) (w : World) {first cap : Array Value} {u : Unsupported} :
    (do
      if (← nilAhead ((← program).types.size + Made.depth) t v name) != some false then
        unsupported u
      pure (Next.value (.func (.method name) first cap)) : Sem Next).run P w = .ok (.value (.func (.method name) first cap)) w := by
  rw [run_bind_ok (a := P) (w' := w) rfl]
  have hpos : 0 < Made.depth := by decide
  have hd : P.types.size + Made.depth = (P.types.size + Made.depth - 1) + 1 := by omega
  have hn : (nilAhead (P.types.size + Made.depth) t v name).run P w = .ok (some false) w := by
    rw [hd]
    unfold methodOf at h
    split at h
    · rename_i i hi
      split at h
      · rename_i m hm
        split at h
        · rename_i f' p hpath hfunc
          unfold nilAhead
          rw [run_bind_ok (a := i) (w' := w) (run_typeInfo w hi)]
          simp only [hm]
          rw [hpath]
          rw [run_bind_ok (a := Except.ok (t, some v)) (w' := w) rfl]
          simp only [hfunc]
          split at h
          · rfl
          · cases h
          · rename_i u hne hu
            rw [run_bind_ok (run_und hu w)]
            cases u <;> first | rfl | exact absurd rfl (hne _)
          · cases h
        · cases h
      · cases h
    · cases h
  rw [run_bind_ok hn]
  rfl

theorem pure_sound {P : Program} {o : Oper} {ρ : Env} {K : Value → Prop} (h : pureOp P o.op ρ K) :
    ∃ v, K v ∧ ∀ w, (execOp (ev ρ) o).run P w = .ok (.value v) w := by
  have wrap : ∀ {s : Sem Value}, Yv P s K → ∃ v, K v ∧ ∀ w, (do pure (Next.value (← s)) : Sem Next).run P w = .ok (.value v) w := by
    rintro s ⟨v, hv, hr⟩
    exact ⟨v, hv, fun w => by rw [run_bind_ok (hr w)]; rfl⟩
  unfold execOp
  generalize o.op = op at h
  unfold pureOp at h
  split at h
  · exact ⟨_, h, fun w => rfl⟩
  · exact ⟨_, h, fun w => rfl⟩
  · obtain ⟨b, hb, hk⟩ := vBool_out h
    refine ⟨_, hk, fun w => ?_⟩
    simp only [hb]
    rw [run_bind_ok (a := b) (w' := w) rfl]
    cases b <;> rfl
  · unfold vNilP at h
    split at h
    · rename_i name first cap hx
      split at h
      · rename_i t v r hf
        obtain ⟨hm, hk⟩ := h
        obtain ⟨f, hm⟩ := Option.isSome_iff_exists.1 hm
        refine ⟨_, hk, fun w => ?_⟩
        simp only [hx]
        have h0 : (first[0]? : Option Value) = some (.iface t v) := by
          rw [← Array.getElem?_toList, hf]; rfl
        simp only [h0]
        exact method_ahead hm v w
      · exact h.elim
    · unfold vNil at h
      split at h <;> rename_i hx
      · exact ⟨_, h, fun w => by simp only [hx]; rfl⟩
      · exact ⟨_, h, fun w => by simp only [hx]; rfl⟩
      · exact ⟨_, h, fun w => by simp only [hx]; rfl⟩
      · exact ⟨_, h, fun w => by simp only [hx]; rfl⟩
      · exact h.elim
  · exact wrap (vBinP_out h)
  · exact wrap (vUn_out h)
  · split at h
    · rename_i d hd
      exact wrap (vConv_out (by rw [hd]; rfl) h)
    · exact h.elim
  · exact wrap (vIface_out h)
  · refine ⟨_, h, fun w => ?_⟩
    simp only [Instr.makeFunc]
    rw [run_bind_ok (a := _) (w' := w) rfl]
    have e1 : ∀ (xs : Array Operand), xs.map (ev ρ) = (xs.toList.map (ev ρ)).toArray := fun xs => by apply Array.toList_inj.1; simp
    rw [e1, e1]; rfl
  · exact wrap (vSlice_out h)
  · exact wrap (vSlice3_out h)
  · exact wrap (vFA_out h)
  · exact wrap (vField_out h)
  · exact wrap (vIA_out h)
  · exact wrap (vIx_out h)
  · exact wrap (vExt_out h)
  · unfold vBuild at h
    split at h
    · rename_i z hz
      split at h
      · rename_i hok
        exact wrap (build_out hz hok h)
      · exact h.elim
    · exact h.elim
  · split at h
    · rename_i args ts _ _ x t ha ht
      have hts : ts = #[t] := by apply Array.toList_inj.1; rw [ht]
      have hargs : args = #[x] := by apply Array.toList_inj.1; rw [ha]
      subst hts; subst hargs
      obtain ⟨v, hv, hr⟩ := vLen_out (ty := o.type) h
      exact ⟨v, hv, fun w => by
        simp only [resolve]
        rw [run_bind_ok (a := _) (w' := w) rfl]
        simp only [invoke, builtin, List.map_toArray, List.map_cons, List.map_nil]
        rw [run_bind_ok (hr w)]; rfl⟩
    · exact h.elim
  · split at h
    · rename_i args ts _ _ x t ha ht
      have hts : ts = #[t] := by apply Array.toList_inj.1; rw [ht]
      have hargs : args = #[x] := by apply Array.toList_inj.1; rw [ha]
      subst hts; subst hargs
      obtain ⟨v, hv, hr⟩ := vCap_out (ty := o.type) h
      exact ⟨v, hv, fun w => by
        simp only [resolve]
        rw [run_bind_ok (a := _) (w' := w) rfl]
        simp only [invoke, builtin, List.map_toArray, List.map_cons, List.map_nil]
        rw [run_bind_ok (hr w)]; rfl⟩
    · exact h.elim
  · split at h
    · rename_i args ts _ x ha
      have hargs : args = #[x] := by apply Array.toList_inj.1; rw [ha]
      subst hargs
      obtain ⟨v, hv, hr⟩ := vUSD_out (P := P) (ts := ts) (ty := o.type) h
      exact ⟨v, hv, fun w => by
        simp only [resolve]
        rw [run_bind_ok (a := _) (w' := w) rfl]
        simp only [invoke, builtin, List.map_toArray, List.map_cons, List.map_nil]
        rw [run_bind_ok (hr w)]; rfl⟩
    · exact h.elim
  · split at h
    · rename_i args ts _ x r ha
      have hargs : args = (x :: r).toArray := by apply Array.toList_inj.1; rw [ha]
      subst hargs
      obtain ⟨v, hv, hr⟩ := vMin_out (P := P) _ _ h
      exact ⟨v, hv, fun w => by
        simp only [resolve]
        rw [run_bind_ok (a := _) (w' := w) rfl]
        simp only [invoke, builtin, Builtin.min_, List.map_toArray, List.map_cons]
        rw [run_bind_ok (hr w)]; rfl⟩
    · exact h.elim
  · split at h
    · rename_i args ts _ x r ha
      have hargs : args = (x :: r).toArray := by apply Array.toList_inj.1; rw [ha]
      subst hargs
      obtain ⟨v, hv, hr⟩ := vMax_out (P := P) _ _ h
      exact ⟨v, hv, fun w => by
        simp only [resolve]
        rw [run_bind_ok (a := _) (w' := w) rfl]
        simp only [invoke, builtin, Builtin.max_, List.map_toArray, List.map_cons]
        rw [run_bind_ok (hr w)]; rfl⟩
    · exact h.elim
  · exact h.elim
end Go.V
