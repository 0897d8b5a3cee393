/-
  The engine, part 1: a deep predicate 'V.op' of one operation of the model, in continuation form. Own work.
-/
import Derived.WalkKit
import Derived.RangeFuncNested
import Derived.RangeFuncBound
import Derived.RangeFuncCalls
import Derived.RangeFuncLeaves
import Derived.OwnWalkIn
import Derived.TacticsInMore
import Derived.Deep.MidRow
import Derived.Lib.IndexBytes
import Derived.DeepKeys
set_option linter.unusedVariables false
namespace Go.V
open Go Go.RowKit

abbrev Env := Nat → Value

def put (ρ : Env) (d : Option Nat) (v : Value) : Env :=
  match d with
  | none => ρ
  | some d => fun i => bif Nat.beq i d then v else ρ i

def ev (ρ : Env) : Operand → Value
  | .tmp t => ρ t
  | .const v => v
  | .global g => .pointer (some ⟨g, 0, none⟩)
  | .func f => .func (.func f) #[] #[]

/-! ### Kinds of types, small enough to be printed -/

inductive TK where
  | bool | int (k : IntKind) | string | ptr (big : Bool) | slice (es : Nat) | map | func | iface | agg | arr (n es : Nat) | inil | other

def cellsOf (P : Program) (t : TypeId) : Nat := ((P.info? t).map (·.size)).getD 0

def tk (P : Program) (t : TypeId) : TK :=
  match P.underlying t with
  | some .bool => .bool
  | some (.int k) => .int k
  | some .string => .string
  | some (.pointer e) => match P.info? e with
    | some i => .ptr (!(Nat.beq i.size 0))
    | none => .other
  | some (.slice e) => match P.info? e with
    | some i => .slice i.size
    | none => .other
  | some (.map _ _) => .map
  | some (.func _ _ _) => .func
  | some (.interface _) => .iface
  | some (.struct _) => .agg
  | some (.array n e) => match P.info? e with
    | some i => .arr n i.size
    | none => .other
  | _ => .other

/-- the kind of what is compared: an interface with the literal nil is a kind of its own -/
def tkB (P : Program) (t : TypeId) (y : Operand) : TK :=
  match tk P t, y with
  | .iface, .const .nilIface => .inil
  | k, _ => k

/-- one cell, or a row of n cells -/
inductive LD where
  | one | agg (n : Nat) | bad

def ldk (P : Program) (t : TypeId) : LD :=
  match P.underlying t, P.info? t with
  | some (.struct _), some i => .agg i.size
  | some (.array _ _), some i => .agg i.size
  | some _, some _ => .one
  | _, _ => .bad

/-- the cells of a type's zero value -/
def zc (P : Program) (t : TypeId) : Option (Array Value) := ((P.info? t).bind (·.zero)).map (·.cells)

/-- the offset of a field that has cells -/
def fa (P : Program) (s : TypeId) (f : Nat) : Option Nat :=
  match P.underlying s with
  | some (.struct fs) => match fs[f]? with
    | some f => match P.info? f.type with
      | some i => bif Nat.beq i.size 0 then none else some f.offset
      | none => none
    | none => none
  | _ => none

/-- a field by value: its type and offset -/
def fv (P : Program) (s : TypeId) (f : Nat) : Option (LD × Nat) :=
  match P.underlying s with
  | some (.struct fs) => match fs[f]? with
    | some f => some (ldk P f.type, f.offset)
    | none => none
  | _ => none

def elemOf (P : Program) (t : TypeId) : Option TypeId :=
  match P.underlying t with
  | some (.slice e) => some e
  | some (.array _ e) => some e
  | _ => none

/-! ### Pure operations -/

def vBool (v : Value) (K : Bool → Prop) : Prop :=
  match v with
  | .bool b => K b
  | _ => False

def vNil (v : Value) (K : Value → Prop) : Prop :=
  match v with
  | .pointer (some a) => K (.pointer (some a))
  | .iface t x => K (.iface t x)
  | .func (.func f) a b => K (.func (.func f) a b)
  | .func (.yield l) a b => K (.func (.yield l) a b)
  | _ => False

/-- the function that a method's name is for a type: a method of the type's own -/
def methodOf (P : Program) (t : TypeId) (name : String) : Option FuncId :=
  match P.info? t with
  | some i => match i.methods.find? (·.name == name) with
    | some m => match m.path.toList, m.func with
      | [], some (f, p) => match P.underlying t, p with
        | some (.pointer _), true => some f
        | some (.pointer _), false => none
        | some _, false => some f
        | _, _ => none
      | _, _ => none
    | none => none
  | none => none

/-- a nil check; a method's value is one whose receiver is there -/
def vNilP (P : Program) (v : Value) (K : Value → Prop) : Prop :=
  match v with
  | .func (.method name) first cap => match first.toList with
    | .iface t _ :: _ => (methodOf P t name).isSome = true ∧ K (.func (.method name) first cap)
    | _ => False
  | v => vNil v K

def bitsI (k : IntKind) (f : BitVec k.bits → BitVec k.bits → BitVec k.bits) (a b : Int) : Int :=
  k.wrap ((f (BitVec.ofInt k.bits a) (BitVec.ofInt k.bits b)).toNat : Int)

def vInt (op : BinOp) (k : IntKind) (a : Int) (k' : IntKind) (b : Int) (K : Value → Prop) : Prop :=
  match op with
  | .shl => 0 ≤ b ∧ K (.int k (k.wrap (a * 2 ^ (min b.toNat k.bits))))
  | .shr => 0 ≤ b ∧ K (.int k (a.fdiv (2 ^ (min b.toNat k.bits))))
  | .add => k = k' ∧ K (.int k (k.wrap (a + b)))
  | .sub => k = k' ∧ K (.int k (k.wrap (a - b)))
  | .mul => k = k' ∧ K (.int k (k.wrap (a * b)))
  | .quo => k = k' ∧ b ≠ 0 ∧ K (.int k (k.wrap (a.tdiv b)))
  | .rem => k = k' ∧ b ≠ 0 ∧ K (.int k (a.tmod b))
  | .and => k = k' ∧ K (.int k (bitsI k (· &&& ·) a b))
  | .or => k = k' ∧ K (.int k (bitsI k (· ||| ·) a b))
  | .xor => k = k' ∧ K (.int k (bitsI k (· ^^^ ·) a b))
  | .andNot => k = k' ∧ K (.int k (bitsI k (fun x y => x &&& ~~~y) a b))
  | .eql => k = k' ∧ K (.bool (a == b))
  | .neq => k = k' ∧ K (.bool (a != b))
  | .lss => k = k' ∧ K (.bool (decide (a < b)))
  | .leq => k = k' ∧ K (.bool (decide (a ≤ b)))
  | .gtr => k = k' ∧ K (.bool (decide (b < a)))
  | .geq => k = k' ∧ K (.bool (decide (b ≤ a)))

def vStr (op : BinOp) (a b : ByteArray) (K : Value → Prop) : Prop :=
  match op with
  | .add => a.size + b.size < 9223372036854775808 ∧ K (.string (a ++ b))
  | .eql => K (.bool (a.data.toList == b.data.toList))
  | .neq => K (.bool (!(a.data.toList == b.data.toList)))
  | .lss => K (.bool (Op.bytesLess a.data.toList b.data.toList))
  | .leq => K (.bool (Op.bytesLess a.data.toList b.data.toList || a.data.toList == b.data.toList))
  | .gtr => K (.bool (!(Op.bytesLess a.data.toList b.data.toList || a.data.toList == b.data.toList)))
  | .geq => K (.bool (!(Op.bytesLess a.data.toList b.data.toList)))
  | _ => False

def vEqB (op : BinOp) (b : Bool) (K : Value → Prop) : Prop :=
  match op with
  | .eql => K (.bool b)
  | .neq => K (.bool (!b))
  | _ => False

def vBin (t : TK) (op : BinOp) (x y : Value) (K : Value → Prop) : Prop :=
  match x, y with
  | .int k a, .int k' b => vInt op k a k' b K
  | .string a, .string b => vStr op a b K
  | .bool a, .bool b => match t with
    | .bool => vEqB op (a == b) K
    | _ => False
  | .pointer none, .pointer b => match t with
    | .ptr _ => vEqB op b.isNone K
    | _ => False
  | .pointer (some _), .pointer none => match t with
    | .ptr _ => vEqB op false K
    | _ => False
  | .slice none _ _, .slice b _ _ => match t with
    | .slice _ => vEqB op b.isNone K
    | _ => False
  | .slice (some _) _ _, .slice none _ _ => match t with
    | .slice _ => vEqB op false K
    | _ => False
  | .map none, .map b => match t with
    | .map => vEqB op b.isNone K
    | _ => False
  | .map (some _), .map none => match t with
    | .map => vEqB op false K
    | _ => False
  | .func _ _ _, .nilFunc => match t with
    | .func => vEqB op false K
    | _ => False
  | .nilFunc, .nilFunc => match t with
    | .func => vEqB op true K
    | _ => False
  | .iface _ _, .nilIface => match t with
    | .inil => vEqB op false K
    | _ => False
  | .nilIface, .nilIface => match t with
    | .inil => vEqB op true K
    | _ => False
  | _, _ => False

/-- == of two structs or arrays of bools, whole numbers and strings -/
def vAggEq (P : Program) (t : TypeId) (op : BinOp) (x y : Value) (K : Value → Prop) : Prop :=
  match x, y with
  | .agg xs, .agg ys => ∃ (m D D' : Nat) (la lb : List Lit), m ≤ 10000 ∧ P.keyTypeAt m t = true ∧ (Value.agg xs).formed P t = true ∧ (Value.agg ys).formed P t = true ∧
      P.keyLits D t xs.toList = some la ∧ P.keyLits D' t ys.toList = some lb ∧ P.eqGuardType P.depth t = false ∧ ∀ b : Bool, (b = true ↔ la = lb) → vEqB op b K
  | _, _ => False

def vBinP (P : Program) (t : TypeId) (k : TK) (op : BinOp) (x y : Value) (K : Value → Prop) : Prop :=
  match k with
  | .agg => vAggEq P t op x y K
  | .arr _ _ => vAggEq P t op x y K
  | k => vBin k op x y K

def vUn (op : UnOp) (x : Value) (K : Value → Prop) : Prop :=
  match op, x with
  | .neg, .int k n => K (.int k (k.wrap (0 - n)))
  | .xor, .int k n => K (.int k (bitsI k (· ^^^ ·) (if k.signed then -1 else k.max) n))
  | .not, .bool b => K (.bool (!b))
  | _, _ => False

def vConv (dst : TK) (x : Value) (K : Value → Prop) : Prop :=
  match dst, x with
  | .int k, .int _ n => K (.int k (k.wrap n))
  | .string, .string s => K (.string s)
  | _, _ => False

def bnd (v : Option Value) (dflt y : Nat) (K : Nat → Prop) : Prop :=
  match v with
  | none => K dflt
  | some (.int _ i) => 0 ≤ i ∧ i ≤ (y : Int) ∧ K i.toNat
  | _ => False

def vSlice (t : TK) (x : Value) (lo hi : Option Value) (K : Value → Prop) : Prop :=
  match t, x with
  | .string, .string s => bnd hi s.size s.size fun h => bnd lo 0 h fun l => K (.string (s.extract l h))
  | .slice es, .slice a len cap => bnd hi len cap fun h => bnd lo 0 h fun l => K (.slice (if cap = l then a else a.map (·.add (l * es))) (h - l) (cap - l))
  | .arr n es, .pointer (some a) => bnd hi n n fun h => bnd lo 0 h fun l => K (.slice (some (if n = l then a else a.add (l * es))) (h - l) (n - l))
  | _, _ => False

def vFA (off : Option Nat) (x : Value) (K : Value → Prop) : Prop :=
  match off, x with
  | some off, .pointer (some a) => K (.pointer (some (a.add off)))
  | _, _ => False

def vIA (t : TK) (x i : Value) (K : Value → Prop) : Prop :=
  match t, x, i with
  | .slice es, .slice (some a) len _, .int _ n => 0 ≤ n ∧ n < (len : Int) ∧ K (.pointer (some (a.add (n.toNat * es))))
  | .arr len es, .pointer (some a), .int _ n => 0 ≤ n ∧ n < (len : Int) ∧ K (.pointer (some (a.add (n.toNat * es))))
  | _, _, _ => False

def vPart (d : LD) (cs : Array Value) (off : Nat) (K : Value → Prop) : Prop :=
  match d with
  | .one => match cs.toList[off]? with
    | some v => K v
    | none => False
  | .agg n => K (.agg ((cs.toList.drop off).take n).toArray)
  | .bad => False

/-- index of a string, or of an array by value (es: the element's) -/
def vIx (t : TK) (d : LD) (x i : Value) (K : Value → Prop) : Prop :=
  match t, x, i with
  | .string, .string s, .int _ n => 0 ≤ n ∧ match s.data.toList[n.toNat]? with
    | some b => K (.int .u8 b.toNat)
    | none => False
  | .arr len es, .agg cs, .int _ n => 0 ≤ n ∧ n < (len : Int) ∧ vPart d cs (n.toNat * es) K
  | _, _, _ => False

def vField (f : Option (LD × Nat)) (x : Value) (K : Value → Prop) : Prop :=
  match f, x with
  | some (d, off), .agg cs => vPart d cs off K
  | _, _ => False

def vExt (x : Value) (i : Nat) (K : Value → Prop) : Prop :=
  match x with
  | .tuple vs => match vs.toList[i]? with
    | some v => K v
    | none => False
  | _ => False

def vLen (t : TK) (x : Value) (K : Value → Prop) : Prop :=
  match t, x with
  | .string, .string s => K (.int .i64 s.size)
  | .arr n _, _ => K (.int .i64 n)
  | .slice _, .slice _ n _ => K (.int .i64 n)
  | _, _ => False

def vCap (t : TK) (x : Value) (K : Value → Prop) : Prop :=
  match t, x with
  | .slice _, .slice _ _ n => K (.int .i64 n)
  | _, _ => False

def vMin (x : Value) : List Value → (Value → Prop) → Prop
  | [], K => K x
  | y :: r, K => match x, y with
    | .int k a, .int _ b => vMin (.int k (if b < a then b else a)) r K
    | _, _ => False

def vMax (x : Value) : List Value → (Value → Prop) → Prop
  | [], K => K x
  | y :: r, K => match x, y with
    | .int k a, .int _ b => vMax (.int k (if b > a then b else a)) r K
    | _, _ => False

def conc (P : Program) (t : TypeId) : Bool :=
  match P.underlying t with
  | some (.interface _) => false
  | some _ => true
  | none => false

def vIface (ok : Bool) (t : TypeId) (x : Value) (K : Value → Prop) : Prop :=
  match ok with
  | true => K (.iface t x)
  | false => False

/-- parts into cells -/
def spl (z : List Value) (o : Nat) (cs : List Value) : List Value := z.take o ++ cs ++ z.drop (o + cs.length)

def fillV (place : Nat → Option (Nat × Nat)) (cells : List Value) : List (Nat × Value) → (List Value → Prop) → Prop
  | [], K => K cells
  | (i, v) :: r, K => match place i with
    | some (off, size) => v.cells.size = size ∧ fillV place (spl cells off v.cells.toList) r K
    | none => False

def fieldPlaces (P : Program) (t : TypeId) (i : Nat) : Option (Nat × Nat) :=
  match P.underlying t with
  | some (.struct fs) => match fs.toList[i]? with
    | some f => some (f.offset, cellsOf P f.type)
    | none => none
  | some (.array n e) => bif Nat.ble n i then none else some (i * cellsOf P e, cellsOf P e)
  | _ => none

/-- may a value of this type be built: the parts' types are known and lie within the zero value's cells -/
def buildOK (P : Program) (t : TypeId) (z : Nat) : Bool :=
  match P.underlying t with
  | some (.struct fs) => fs.toList.all fun f => (P.info? f.type).isSome && Nat.ble (f.offset + cellsOf P f.type) z
  | some (.array n e) => (P.info? e).isSome && Nat.ble (n * cellsOf P e) z
  | _ => false

def vBuild (P : Program) (t : TypeId) (parts : List (Nat × Value)) (K : Value → Prop) : Prop :=
  match zc P t with
  | some z => match buildOK P t z.size with
    | true => fillV (fieldPlaces P t) z.toList parts fun cs => K (.agg cs.toArray)
    | false => False
  | none => False

def vUSD (x : Value) (K : Value → Prop) : Prop :=
  match x with
  | .slice none _ _ => K (.pointer none)
  | .slice (some a) _ c => c ≠ 0 ∧ K (.pointer (some a))
  | _ => False

/-- the operations that ask nothing of the world -/
def pureOp (P : Program) (op : Op) (ρ : Env) (K : Value → Prop) : Prop :=
  match op with
  | .move x => K (ev ρ x)
  | .assign x => K (ev ρ x)
  | .pick c a b => vBool (ev ρ c) fun t => K (bif t then ev ρ a else ev ρ b)
  | .nilCheck x => vNilP P (ev ρ x) K
  | .binOp op t x y _ => vBinP P t (tkB P t y) op (ev ρ x) (ev ρ y) K
  | .unOp op _ x => vUn op (ev ρ x) K
  | .convert s d x => match P.underlying s with
    | some _ => vConv (tk P d) (ev ρ x) K
    | none => False
  | .makeInterface t x => vIface (conc P t) t (ev ρ x) K
  | .makeFunc fn first cap => K (.func fn (first.toList.map (ev ρ)).toArray (cap.toList.map (ev ρ)).toArray)
  | .slice t x lo hi none => vSlice (tk P t) (ev ρ x) (lo.map (ev ρ)) (hi.map (ev ρ)) K
  | .fieldAddr s x f => vFA (fa P s f) (ev ρ x) K
  | .field s x f => vField (fv P s f) (ev ρ x) K
  | .indexAddr t x i => vIA (tk P t) (ev ρ x) (ev ρ i) K
  | .index t x i => vIx (tk P t) ((elemOf P t).elim .bad (ldk P)) (ev ρ x) (ev ρ i) K
  | .extract x i => vExt (ev ρ x) i K
  | .build t parts => vBuild P t (parts.toList.map fun (i, x) => (i, ev ρ x)) K
  | .call { callee := .builtin .len, args := args, argTypes := ts } => match args.toList, ts.toList with
    | [x], [t] => vLen (tk P t) (ev ρ x) K
    | _, _ => False
  | .call { callee := .builtin .cap, args := args, argTypes := ts } => match args.toList, ts.toList with
    | [x], [t] => vCap (tk P t) (ev ρ x) K
    | _, _ => False
  | .call { callee := .builtin .unsafeSliceData, args := args, argTypes := _ } => match args.toList with
    | [x] => vUSD (ev ρ x) K
    | _ => False
  | .call { callee := .builtin .min, args := args, argTypes := _ } => match args.toList with
    | x :: r => vMin (ev ρ x) (r.map (ev ρ)) K
    | _ => False
  | .call { callee := .builtin .max, args := args, argTypes := _ } => match args.toList with
    | x :: r => vMax (ev ρ x) (r.map (ev ρ)) K
    | _ => False
  | _ => False

end Go.V
