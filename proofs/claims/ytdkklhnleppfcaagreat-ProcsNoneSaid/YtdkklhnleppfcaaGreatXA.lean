/-
  THE EXECUTOR, part 1: values whose addresses are numbers of its own, and the operations that ask nothing of the world. Own work; generic in the program.
-/
import Derived.Test.YtdkklhnleppfcaaGreatVF
set_option linter.unusedVariables false
set_option linter.unusedSimpArgs false

set_option linter.unusedVariables false
namespace Go.X
open Go Go.V Go.RowKit

/-- where a block of the executor's lies in the world: its block, the shift of its cells, the elements that it has beyond those that are told -/
structure At where
  blk : Nat
  off : Nat
  extra : Nat

/-- where the executor's blocks lie; and, of the world w0 in which it began, the blocks F that it may change -/
structure Ren where
  f : Nat → Option At
  w0 : World
  F : Nat → Prop
  /-- names that stand for nothing as yet -/
  R : Nat → Prop
  /-- what loops over functions began as, by their blocks -/
  lp : Nat → Option Loop

instance : CoeFun Ren fun _ => Nat → Option At := ⟨Ren.f⟩

/-- a capacity from here on: less so much, and as many elements more as the block has beyond -/
def far : Nat := 18446744073709551616

def capOf (a : At) (k : Nat) : Nat := bif Nat.blt k far then k else k - far + a.extra

mutual
inductive VR (m : Ren) : Value → Value → Prop
  | bool (b : Bool) : VR m (.bool b) (.bool b)
  | int (k : IntKind) (n : Int) : VR m (.int k n) (.int k n)
  | str (s : ByteArray) : VR m (.string s) (.string s)
  | pnil : VR m (.pointer none) (.pointer none)
  | snil : VR m (.slice none 0 0) (.slice none 0 0)
  | mnil : VR m (.map none) (.map none)
  | fnil : VR m .nilFunc .nilFunc
  | inil : VR m .nilIface .nilIface
  | ptr {b o : Nat} {a : At} (h : m b = some a) : VR m (.pointer (some ⟨b, o, none⟩)) (.pointer (some ⟨a.blk, a.off + o, none⟩))
  | sl {b o n k : Nat} {a : At} (h : m b = some a) : VR m (.slice (some ⟨b, o, none⟩) n k) (.slice (some ⟨a.blk, a.off + o, none⟩) n (capOf a k))
  | map {b : Nat} {a : At} (h : m b = some a) : VR m (.map (some b)) (.map (some a.blk))
  | iface {t : TypeId} {x y : Value} (h : VR m x y) : VR m (.iface t x) (.iface t y)
  | fn {g : FuncId} {f f' c c' : List Value} (h1 : VRs m f f') (h2 : VRs m c c') : VR m (.func (.func g) ⟨f⟩ ⟨c⟩) (.func (.func g) ⟨f'⟩ ⟨c'⟩)
  | yld {l : Nat} {a : At} (h : m l = some a) : VR m (.func (.yield l) #[] #[]) (.func (.yield a.blk) #[] #[])
  | agg {xs ys : List Value} (h : VRs m xs ys) : VR m (.agg ⟨xs⟩) (.agg ⟨ys⟩)
  | tup {xs ys : List Value} (h : VRs m xs ys) : VR m (.tuple ⟨xs⟩) (.tuple ⟨ys⟩)
  /-- an empty slice at the end of what is told: d further, if there is more -/
  | edge {b o d k : Nat} {a : At} (h : m b = some a) : VR m (.slice (some ⟨b, o, some d⟩) 0 k) (.slice (some ⟨a.blk, a.off + o + (if capOf a k = 0 then 0 else d), none⟩) 0 (capOf a k))
inductive VRs (m : Ren) : List Value → List Value → Prop
  | nil : VRs m [] []
  | cons {x y : Value} {xs ys : List Value} (h : VR m x y) (hs : VRs m xs ys) : VRs m (x :: xs) (y :: ys)
end

structure Ren.le (m m' : Ren) : Prop where
  at_ : ∀ b a, m b = some a → m' b = some a
  w0 : m'.w0 = m.w0
  F : m'.F = m.F
  R : m'.R = m.R
  lp : ∀ c r, m.lp c = some r → m'.lp c = some r

theorem Ren.le.refl (m : Ren) : m.le m := ⟨fun _ _ h => h, rfl, rfl, rfl, fun _ _ h => h⟩
theorem Ren.le.trans {m m' m'' : Ren} (h : m.le m') (h' : m'.le m'') : m.le m'' := ⟨fun b a hb => h'.at_ b a (h.at_ b a hb), h'.w0.trans h.w0, h'.F.trans h.F, h'.R.trans h.R, fun c r hc => h'.lp c r (h.lp c r hc)⟩

/-- more is known -/
structure Ren.sub (m m' : Ren) : Prop where
  at_ : ∀ b a, m b = some a → m' b = some a
  lp : ∀ c r, m.lp c = some r → m'.lp c = some r

theorem Ren.le.sub {m m' : Ren} (h : m.le m') : m.sub m' := ⟨h.at_, h.lp⟩

mutual
theorem VR.imp {m m' : Ren} (h : ∀ b a, m b = some a → m' b = some a) : ∀ {x y : Value}, VR m x y → VR m' x y
  | _, _, .bool b => .bool b
  | _, _, .int k n => .int k n
  | _, _, .str s => .str s
  | _, _, .pnil => .pnil
  | _, _, .snil => .snil
  | _, _, .mnil => .mnil
  | _, _, .fnil => .fnil
  | _, _, .inil => .inil
  | _, _, .ptr hb => .ptr (h _ _ hb)
  | _, _, .sl hb => .sl (h _ _ hb)
  | _, _, .map hb => .map (h _ _ hb)
  | _, _, .iface hx => .iface (VR.imp h hx)
  | _, _, .fn h1 h2 => .fn (VRs.imp h h1) (VRs.imp h h2)
  | _, _, .yld hb => .yld (h _ _ hb)
  | _, _, .agg hs => .agg (VRs.imp h hs)
  | _, _, .tup hs => .tup (VRs.imp h hs)
  | _, _, .edge hb => .edge (h _ _ hb)
theorem VRs.imp {m m' : Ren} (h : ∀ b a, m b = some a → m' b = some a) : ∀ {xs ys : List Value}, VRs m xs ys → VRs m' xs ys
  | _, _, .nil => .nil
  | _, _, .cons hx hs => .cons (VR.imp h hx) (VRs.imp h hs)
end

theorem VR.up {m m' : Ren} (h : m.le m') {x y : Value} (hx : VR m x y) : VR m' x y := hx.imp h.at_
theorem VRs.up {m m' : Ren} (h : m.le m') {x y : List Value} (hx : VRs m x y) : VRs m' x y := hx.imp h.at_

theorem VRs.length {m : Ren} : ∀ {xs ys : List Value}, VRs m xs ys → xs.length = ys.length
  | _, _, .nil => rfl
  | _, _, .cons _ hs => by simp [VRs.length hs]

theorem VRs.get {m : Ren} : ∀ {xs ys : List Value} (h : VRs m xs ys) (i : Nat) {x : Value}, xs[i]? = some x → ∃ y, ys[i]? = some y ∧ VR m x y
  | _, _, .nil, i, x, h => by simp at h
  | _, _, .cons hx hs, 0, x, h => by
    simp only [List.getElem?_cons_zero, Option.some.injEq] at h
    subst h
    exact ⟨_, rfl, hx⟩
  | _, _, .cons hx hs, i + 1, x, h => by
    simp only [List.getElem?_cons_succ] at h ⊢
    exact VRs.get hs i h

theorem VRs.take {m : Ren} : ∀ {xs ys : List Value} (h : VRs m xs ys) (i : Nat), VRs m (xs.take i) (ys.take i)
  | _, _, .nil, i => by simpa using VRs.nil
  | _, _, .cons hx hs, 0 => by simpa using VRs.nil
  | _, _, .cons hx hs, i + 1 => by simpa using VRs.cons hx (VRs.take hs i)
theorem VRs.drop {m : Ren} : ∀ {xs ys : List Value} (h : VRs m xs ys) (i : Nat), VRs m (xs.drop i) (ys.drop i)
  | _, _, .nil, i => by simpa using VRs.nil
  | _, _, .cons hx hs, 0 => by simpa using VRs.cons hx hs
  | _, _, .cons hx hs, i + 1 => by simpa using VRs.drop hs i
theorem VRs.append {m : Ren} : ∀ {xs ys us vs : List Value} (h : VRs m xs ys) (h' : VRs m us vs), VRs m (xs ++ us) (ys ++ vs)
  | _, _, _, _, .nil, h' => h'
  | _, _, _, _, .cons hx hs, h' => .cons hx (VRs.append hs h')
theorem VRs.spl {m : Ren} {z z' cs cs' : List Value} (h : VRs m z z') (hc : VRs m cs cs') (o : Nat) : VRs m (spl z o cs) (spl z' o cs') := by
  unfold V.spl
  rw [hc.length]
  exact ((h.take o).append hc).append (h.drop _)

theorem VR.cells {m : Ren} {x y : Value} (h : VR m x y) : VRs m x.cells.toList y.cells.toList := by
  cases h <;> first | assumption | exact .cons (by constructor <;> assumption) .nil

/-! ### Operations -/

def xInt (op : BinOp) (k : IntKind) (a : Int) (k' : IntKind) (b : Int) : Option Value :=
  match op with
  | .shl => if 0 ≤ b then some (.int k (k.wrap (a * 2 ^ (min b.toNat k.bits)))) else none
  | .shr => if 0 ≤ b then some (.int k (a.fdiv (2 ^ (min b.toNat k.bits)))) else none
  | .add => if k = k' then some (.int k (k.wrap (a + b))) else none
  | .sub => if k = k' then some (.int k (k.wrap (a - b))) else none
  | .mul => if k = k' then some (.int k (k.wrap (a * b))) else none
  | .quo => if k = k' then if b = 0 then none else some (.int k (k.wrap (a.tdiv b))) else none
  | .rem => if k = k' then if b = 0 then none else some (.int k (a.tmod b)) else none
  | .and => if k = k' then some (.int k (bitsI k (· &&& ·) a b)) else none
  | .or => if k = k' then some (.int k (bitsI k (· ||| ·) a b)) else none
  | .xor => if k = k' then some (.int k (bitsI k (· ^^^ ·) a b)) else none
  | .andNot => if k = k' then some (.int k (bitsI k (fun x y => x &&& ~~~y) a b)) else none
  | .eql => if k = k' then some (.bool (a == b)) else none
  | .neq => if k = k' then some (.bool (a != b)) else none
  | .lss => if k = k' then some (.bool (decide (a < b))) else none
  | .leq => if k = k' then some (.bool (decide (a ≤ b))) else none
  | .gtr => if k = k' then some (.bool (decide (b < a))) else none
  | .geq => if k = k' then some (.bool (decide (b ≤ a))) else none

/-- of such results nothing has an address -/
def plainR (v : Value) : Prop := ∀ m, VR m v v

theorem xInt_ok {op : BinOp} {k k' : IntKind} {a b : Int} {v : Value} {K : Value → Prop} (h : xInt op k a k' b = some v) (hk : plainR v → K v) : vInt op k a k' b K := by
  unfold xInt at h
  unfold vInt
  cases op
  case quo | rem =>
    simp only at h ⊢
    split at h
    · split at h
      · cases h
      · cases h; exact ⟨by assumption, by assumption, hk fun m => .int _ _⟩
    · cases h
  all_goals
    simp only at h ⊢
    split at h
    · cases h; refine ⟨by assumption, hk fun m => ?_⟩; constructor
    · cases h

def xEqB (op : BinOp) (b : Bool) : Option Value :=
  match op with
  | .eql => some (.bool b)
  | .neq => some (.bool (!b))
  | _ => none

theorem xEqB_ok {op : BinOp} {b : Bool} {v : Value} {K : Value → Prop} (h : xEqB op b = some v) (hk : plainR v → K v) : vEqB op b K := by
  unfold xEqB at h
  unfold vEqB
  cases op <;> first
    | (cases h; done)
    | (cases h; exact hk fun m => .bool _)

def xStr (op : BinOp) (a b : ByteArray) : Option Value :=
  match op with
  | .add => if a.data.toList.length + b.data.toList.length < 9223372036854775808 then some (.string ⟨⟨a.data.toList ++ b.data.toList⟩⟩) else none
  | .eql => some (.bool (a.data.toList == b.data.toList))
  | .neq => some (.bool (!(a.data.toList == b.data.toList)))
  | .lss => some (.bool (Op.bytesLess a.data.toList b.data.toList))
  | .leq => some (.bool (Op.bytesLess a.data.toList b.data.toList || a.data.toList == b.data.toList))
  | .gtr => some (.bool (!(Op.bytesLess a.data.toList b.data.toList || a.data.toList == b.data.toList)))
  | .geq => some (.bool (!(Op.bytesLess a.data.toList b.data.toList)))
  | _ => none

theorem bytes_app (a b : ByteArray) : a ++ b = ⟨⟨a.data.toList ++ b.data.toList⟩⟩ := by
  have h : (a ++ b).data = (⟨a.data.toList ++ b.data.toList⟩ : Array UInt8) := by
    rw [ByteArray.data_append]
    apply Array.toList_inj.1
    simp
  cases hb : a ++ b
  rw [hb] at h
  simpa using h

theorem xStr_ok {op : BinOp} {a b : ByteArray} {v : Value} {K : Value → Prop} (h : xStr op a b = some v) (hk : plainR v → K v) : vStr op a b K := by
  unfold xStr at h
  unfold vStr
  cases op <;> simp only at h ⊢ <;> first
    | (cases h; done)
    | (cases h; exact hk fun m => .bool _)
    | skip
  split at h
  · rename_i hl
    cases h
    refine ⟨by rw [Array.length_toList, Array.length_toList] at hl; exact hl, ?_⟩
    rw [bytes_app]
    exact hk fun m => .str _
  · cases h

def xBin (t : TK) (op : BinOp) (x y : Value) : Option Value :=
  match x, y with
  | .int k a, .int k' b => xInt op k a k' b
  | .string a, .string b => xStr op a b
  | .bool a, .bool b => match t with
    | .bool => xEqB op (a == b)
    | _ => none
  | .pointer none, .pointer b => match t with
    | .ptr _ => xEqB op b.isNone
    | _ => none
  | .pointer (some _), .pointer none => match t with
    | .ptr _ => xEqB op false
    | _ => none
  | .slice none _ _, .slice b _ _ => match t with
    | .slice _ => xEqB op b.isNone
    | _ => none
  | .slice (some _) _ _, .slice none _ _ => match t with
    | .slice _ => xEqB op false
    | _ => none
  | .map none, .map b => match t with
    | .map => xEqB op b.isNone
    | _ => none
  | .map (some _), .map none => match t with
    | .map => xEqB op false
    | _ => none
  | .func _ _ _, .nilFunc => match t with
    | .func => xEqB op false
    | _ => none
  | .nilFunc, .nilFunc => match t with
    | .func => xEqB op true
    | _ => none
  | .iface _ _, .nilIface => match t with
    | .inil => xEqB op false
    | _ => none
  | .nilIface, .nilIface => match t with
    | .inil => xEqB op true
    | _ => none
  | _, _ => none

theorem xBin_ok {m : Ren} {t : TK} {op : BinOp} {x y x' y' v : Value} {K : Value → Prop} (hx : VR m x x') (hy : VR m y y') (h : xBin t op x y = some v) (hk : plainR v → K v) : vBin t op x' y' K := by
  unfold xBin at h
  unfold vBin
  cases hx <;> cases hy <;> simp only at h ⊢ <;> first
    | (cases h; done)
    | exact xInt_ok h hk
    | exact xStr_ok h hk
    | (cases t <;> first | (cases h; done) | exact xEqB_ok h hk)

def xUn (op : UnOp) (x : Value) : Option Value :=
  match op, x with
  | .neg, .int k n => some (.int k (k.wrap (0 - n)))
  | .xor, .int k n => some (.int k (bitsI k (· ^^^ ·) (if k.signed then -1 else k.max) n))
  | .not, .bool b => some (.bool (!b))
  | _, _ => none

theorem xUn_ok {m : Ren} {op : UnOp} {x x' v : Value} {K : Value → Prop} (hx : VR m x x') (h : xUn op x = some v) (hk : plainR v → K v) : vUn op x' K := by
  unfold xUn at h
  unfold vUn
  cases hx <;> cases op <;> simp only at h ⊢ <;> first
    | (cases h; done)
    | (cases h; exact hk fun m => by constructor)

def xConv (dst : TK) (x : Value) : Option Value :=
  match dst, x with
  | .int k, .int _ n => some (.int k (k.wrap n))
  | .string, .string s => some (.string s)
  | _, _ => none

theorem xConv_ok {m : Ren} {d : TK} {x x' v : Value} {K : Value → Prop} (hx : VR m x x') (h : xConv d x = some v) (hk : plainR v → K v) : vConv d x' K := by
  unfold xConv at h
  unfold vConv
  cases hx <;> cases d <;> simp only at h ⊢ <;> first
    | (cases h; done)
    | (cases h; exact hk fun m => by constructor)

def xPart (d : LD) (cs : List Value) (off : Nat) : Option Value :=
  match d with
  | .one => cs[off]?
  | .agg n => some (.agg ⟨(cs.drop off).take n⟩)
  | .bad => none

theorem xPart_ok {m : Ren} {d : LD} {cs cs' : List Value} {off : Nat} {v : Value} {K : Value → Prop} (hc : VRs m cs cs') (h : xPart d cs off = some v) (hk : ∀ v', VR m v v' → K v') : vPart d ⟨cs'⟩ off K := by
  unfold xPart at h
  unfold vPart
  cases d with
  | one =>
    obtain ⟨y, hy, hr⟩ := hc.get off h
    simp only [hy]
    exact hk _ hr
  | agg n =>
    cases h
    have := hk (.agg ((cs'.drop off).take n).toArray) (.agg ((hc.drop off).take n))
    simpa using this
  | bad => cases h

def xField (f : Option (LD × Nat)) (x : Value) : Option Value :=
  match f, x with
  | some (d, off), .agg cs => xPart d cs.toList off
  | _, _ => none

theorem xField_ok {m : Ren} {f : Option (LD × Nat)} {x x' v : Value} {K : Value → Prop} (hx : VR m x x') (h : xField f x = some v) (hk : ∀ v', VR m v v' → K v') : vField f x' K := by
  unfold xField at h
  unfold vField
  cases hx <;> rcases f with _ | ⟨d, off⟩ <;> simp only at h ⊢ <;> first
    | (cases h; done)
    | (exact xPart_ok (by assumption) h hk)

def xExt (x : Value) (i : Nat) : Option Value :=
  match x with
  | .tuple vs => vs.toList[i]?
  | _ => none

theorem xExt_ok {m : Ren} {x x' v : Value} {i : Nat} {K : Value → Prop} (hx : VR m x x') (h : xExt x i = some v) (hk : ∀ v', VR m v v' → K v') : vExt x' i K := by
  unfold xExt at h
  unfold vExt
  cases hx <;> simp only at h ⊢ <;> first
    | (cases h; done)
    | skip
  rename_i hs
  obtain ⟨y, hy, hr⟩ := hs.get i h
  simp only [hy]
  exact hk _ hr

def xFA (off : Option Nat) (x : Value) : Option Value :=
  match off, x with
  | some off, .pointer (some ⟨b, o, none⟩) => some (.pointer (some ⟨b, o + off, none⟩))
  | _, _ => none

theorem xFA_ok {m : Ren} {off : Option Nat} {x x' v : Value} {K : Value → Prop} (hx : VR m x x') (h : xFA off x = some v) (hk : ∀ v', VR m v v' → K v') : vFA off x' K := by
  unfold xFA at h
  unfold vFA
  cases hx <;> cases off <;> simp only at h ⊢ <;> first
    | (cases h; done)
    | skip
  cases h
  rw [add_off, Nat.add_assoc]
  exact hk _ (.ptr (by assumption))

def xIA (t : TK) (x i : Value) : Option Value :=
  match t, x, i with
  | .slice es, .slice (some ⟨b, o, none⟩) len _, .int _ n => if 0 ≤ n then if n < (len : Int) then some (.pointer (some ⟨b, o + n.toNat * es, none⟩)) else none else none
  | .arr len es, .pointer (some ⟨b, o, none⟩), .int _ n => if 0 ≤ n then if n < (len : Int) then some (.pointer (some ⟨b, o + n.toNat * es, none⟩)) else none else none
  | _, _, _ => none

theorem xIA_ok {m : Ren} {t : TK} {x i x' i' v : Value} {K : Value → Prop} (hx : VR m x x') (hi : VR m i i') (h : xIA t x i = some v) (hk : ∀ v', VR m v v' → K v') : vIA t x' i' K := by
  unfold xIA at h
  unfold vIA
  cases hx <;> cases hi <;> cases t <;> simp only at h ⊢ <;> first
    | (cases h; done)
    | (repeat' (split at h)
       all_goals first
         | (cases h; done)
         | (cases h
            refine ⟨by assumption, by assumption, ?_⟩
            rw [add_off, Nat.add_assoc]
            exact hk _ (.ptr (by assumption))))

def xIx (t : TK) (d : LD) (x i : Value) : Option Value :=
  match t, x, i with
  | .string, .string s, .int _ n => if 0 ≤ n then match s.data.toList[n.toNat]? with
    | some b => some (.int .u8 b.toNat)
    | none => none else none
  | .arr len es, .agg cs, .int _ n => if 0 ≤ n then if n < (len : Int) then xPart d cs.toList (n.toNat * es) else none else none
  | _, _, _ => none

theorem xIx_ok {m : Ren} {t : TK} {d : LD} {x i x' i' v : Value} {K : Value → Prop} (hx : VR m x x') (hi : VR m i i') (h : xIx t d x i = some v) (hk : ∀ v', VR m v v' → K v') : vIx t d x' i' K := by
  unfold xIx at h
  unfold vIx
  cases hx <;> cases hi <;> cases t <;> simp only at h ⊢ <;> first
    | (cases h; done)
    | skip
  · split at h
    · rename_i h0
      refine ⟨h0, ?_⟩
      split at h
      · rename_i b hb
        cases h
        simp only [hb]
        exact hk _ (.int _ _)
      · cases h
    · cases h
  · split at h
    · split at h
      · exact ⟨by assumption, by assumption, xPart_ok (by assumption) h hk⟩
      · cases h
    · cases h

def xLen (t : TK) (x : Value) : Option Value :=
  match t, x with
  | .string, .string s => some (.int .i64 s.data.toList.length)
  | .arr n _, _ => some (.int .i64 n)
  | .slice _, .slice _ n _ => some (.int .i64 n)
  | _, _ => none

theorem xLen_ok {m : Ren} {t : TK} {x x' v : Value} {K : Value → Prop} (hx : VR m x x') (h : xLen t x = some v) (hk : plainR v → K v) : vLen t x' K := by
  unfold xLen at h
  unfold vLen
  cases hx <;> cases t <;> simp only at h ⊢ <;> first
    | (cases h; done)
    | (cases h; exact hk fun m => by constructor)

def xIface (ok : Bool) (t : TypeId) (x : Value) : Option Value :=
  match ok with
  | true => some (.iface t x)
  | false => none

theorem xIface_ok {m : Ren} {ok : Bool} {t : TypeId} {x x' v : Value} {K : Value → Prop} (hx : VR m x x') (h : xIface ok t x = some v) (hk : ∀ v', VR m v v' → K v') : vIface ok t x' K := by
  unfold xIface at h
  unfold vIface
  cases ok
  · cases h
  · cases h
    exact hk _ (.iface hx)

def xFill (place : Nat → Option (Nat × Nat)) (cells : List Value) : List (Nat × Value) → Option (List Value)
  | [] => some cells
  | (i, v) :: r => match place i with
    | some (off, size) => if v.cells.toList.length = size then xFill place (spl cells off v.cells.toList) r else none
    | none => none

inductive PRs (m : Ren) : List (Nat × Value) → List (Nat × Value) → Prop
  | nil : PRs m [] []
  | cons {i : Nat} {x y : Value} {r s : List (Nat × Value)} (h : VR m x y) (hs : PRs m r s) : PRs m ((i, x) :: r) ((i, y) :: s)

theorem xFill_ok {m : Ren} {place : Nat → Option (Nat × Nat)} {K : List Value → Prop} : ∀ {ps ps' : List (Nat × Value)} (hp : PRs m ps ps') {cells cells' out : List Value}, VRs m cells cells' → xFill place cells ps = some out →
    (∀ out', VRs m out out' → K out') → fillV place cells' ps' K
  | _, _, .nil, cells, cells', out, hc, h, hk => by
    cases h
    exact hk _ hc
  | _, _, .cons hx hs, cells, cells', out, hc, h, hk => by
    unfold xFill at h
    unfold fillV
    split at h
    · rename_i off size hpl
      split at h
      · rename_i hl
        simp only [hpl]
        refine ⟨?_, xFill_ok hs (hc.spl hx.cells off) h hk⟩
        have := hx.cells.length
        rw [← hl, this]
        simp
      · cases h
    · cases h

end Go.X

/-
  THE EXECUTOR, part 2: its memory, and what it says of a world. Own work; generic in the program.
-/
set_option linter.unusedVariables false
namespace Go.X
open Go Go.V Go.RowKit

/-! ### Tables by number -/

inductive Tr (α : Type) where
  | leaf
  | node (l : Tr α) (v : Option α) (r : Tr α)

section
variable {α : Type}

noncomputable def Tr.get (t : Tr α) : Nat → Option α :=
  Tr.rec (motive := fun _ => Nat → Option α) (fun _ => none)
    (fun _ v _ il ir k => Nat.rec (motive := fun _ => Option α) v (fun k' _ => bif Nat.beq (Nat.land k' 1) 0 then il (Nat.div k' 2) else ir (Nat.div k' 2)) k) t

noncomputable def Tr.one (x : α) (d : Nat) : Nat → Tr α :=
  Nat.rec (motive := fun _ => Nat → Tr α) (fun _ => .node .leaf (some x) .leaf)
    (fun _ ih k => Nat.rec (motive := fun _ => Tr α) (.node .leaf (some x) .leaf) (fun k' _ => bif Nat.beq (Nat.land k' 1) 0 then .node (ih (Nat.div k' 2)) none .leaf else .node .leaf none (ih (Nat.div k' 2))) k) d

noncomputable def Tr.set (x : α) (t : Tr α) : Nat → Tr α :=
  Tr.rec (motive := fun _ => Nat → Tr α) (fun k => Tr.one x k k)
    (fun l v r il ir k => Nat.rec (motive := fun _ => Tr α) (.node l (some x) r) (fun k' _ => bif Nat.beq (Nat.land k' 1) 0 then .node (il (Nat.div k' 2)) v r else .node l v (ir (Nat.div k' 2))) k) t

def odd (k : Nat) : Bool := !(Nat.beq (Nat.land k 1) 0)

theorem odd_eq (k : Nat) : odd k = (k % 2 == 1) := by
  unfold odd
  have h : Nat.land k 1 = k % 2 := Nat.and_one_is_mod k
  rw [h]
  have := Nat.mod_two_eq_zero_or_one k
  rcases this with e | e <;> rw [e] <;> rfl

theorem get_leaf (k : Nat) : (Tr.leaf : Tr α).get k = none := rfl
theorem get_zero (l r : Tr α) (v : Option α) : (Tr.node l v r).get 0 = v := rfl
theorem get_succ (l r : Tr α) (v : Option α) (k : Nat) : (Tr.node l v r).get (k + 1) = if odd k then r.get (k / 2) else l.get (k / 2) := by
  show (bif Nat.beq (Nat.land k 1) 0 then l.get (k / 2) else r.get (k / 2)) = _
  unfold odd
  cases Nat.beq (Nat.land k 1) 0 <;> rfl
theorem set_leaf (x : α) (k : Nat) : (Tr.leaf : Tr α).set x k = Tr.one x k k := rfl
theorem set_zero (x : α) (l r : Tr α) (v : Option α) : (Tr.node l v r).set x 0 = .node l (some x) r := rfl
theorem set_succ (x : α) (l r : Tr α) (v : Option α) (k : Nat) : (Tr.node l v r).set x (k + 1) = if odd k then .node l v (r.set x (k / 2)) else .node (l.set x (k / 2)) v r := by
  show (bif Nat.beq (Nat.land k 1) 0 then _ else _) = _
  unfold odd
  cases Nat.beq (Nat.land k 1) 0 <;> rfl
theorem one_zero (x : α) (d : Nat) : Tr.one x d 0 = .node .leaf (some x) .leaf := by cases d <;> rfl
theorem one_succ (x : α) (d k : Nat) : Tr.one x (d + 1) (k + 1) = if odd k then .node .leaf none (Tr.one x d (k / 2)) else .node (Tr.one x d (k / 2)) none .leaf := by
  show (bif Nat.beq (Nat.land k 1) 0 then _ else _) = _
  unfold odd
  cases Nat.beq (Nat.land k 1) 0 <;> rfl

theorem half_inj {j k : Nat} (h : odd j = odd k) : (j / 2 = k / 2) = (j + 1 = k + 1) := by
  rw [odd_eq, odd_eq] at h
  have h1 := Nat.mod_two_eq_zero_or_one j
  have h2 := Nat.mod_two_eq_zero_or_one k
  apply propext
  constructor
  · intro e
    have : j % 2 = k % 2 := by
      rcases h1 with h1 | h1 <;> rcases h2 with h2 | h2 <;> rw [h1, h2] at h ⊢ <;> simp at h
    omega
  · intro e
    omega

theorem get_one (x : α) : ∀ (d k j : Nat), k ≤ d → (Tr.one x d k).get j = if j = k then some x else none
  | d, 0, j, _ => by
    rw [one_zero]
    cases j with
    | zero => rfl
    | succ j => rw [get_succ]; simp [get_leaf]
  | 0, k + 1, j, h => by omega
  | d + 1, k + 1, j, h => by
    rw [one_succ]
    cases j with
    | zero =>
      have : ¬ (0 = k + 1) := by omega
      rw [if_neg this]
      split <;> rfl
    | succ j =>
      have ih := get_one x d (k / 2) (j / 2) (by omega)
      by_cases hk : odd k = true
      · rw [if_pos hk, get_succ]
        by_cases hj : odd j = true
        · rw [if_pos hj, ih]
          simp only [half_inj (show odd j = odd k by rw [hj, hk])]
        · rw [if_neg hj, get_leaf, if_neg]
          intro e
          have : j = k := by omega
          rw [this] at hj
          exact hj hk
      · rw [if_neg hk, get_succ]
        by_cases hj : odd j = true
        · rw [if_pos hj, get_leaf, if_neg]
          intro e
          have : j = k := by omega
          rw [this] at hj
          exact hk hj
        · rw [if_neg hj, ih]
          simp only [half_inj (show odd j = odd k by simp only [Bool.not_eq_true] at hj hk; rw [hj, hk])]

theorem get_set (x : α) (t : Tr α) : ∀ (k j : Nat), (t.set x k).get j = if j = k then some x else t.get j := by
  induction t with
  | leaf =>
    intro k j
    rw [set_leaf, get_one x k k j (Nat.le_refl _)]
    rfl
  | node l v r ihl ihr =>
    intro k j
    cases k with
    | zero =>
      rw [set_zero]
      cases j with
      | zero => rfl
      | succ j =>
        have e : ¬ (j + 1 = 0) := by omega
        rw [get_succ, get_succ, if_neg e]
    | succ k =>
      rw [set_succ]
      cases j with
      | zero =>
        have e : ¬ (0 = k + 1) := by omega
        rw [if_neg e]
        split <;> rfl
      | succ j =>
        by_cases hk : odd k = true
        · rw [if_pos hk, get_succ, get_succ]
          by_cases hj : odd j = true
          · rw [if_pos hj, if_pos hj, ihr]
            simp only [half_inj (show odd j = odd k by rw [hj, hk])]
          · rw [if_neg hj, if_neg hj, if_neg]
            intro e
            have : j = k := by omega
            rw [this] at hj
            exact hj hk
        · rw [if_neg hk, get_succ, get_succ]
          by_cases hj : odd j = true
          · rw [if_pos hj, if_pos hj, if_neg]
            intro e
            have : j = k := by omega
            rw [this] at hj
            exact hk hj
          · rw [if_neg hj, if_neg hj, ihl]
            simp only [half_inj (show odd j = odd k by simp only [Bool.not_eq_true] at hj hk; rw [hj, hk])]
end

/-! ### Blocks -/

/-- what is known of a row of cells: was none of it ever frozen; its type -/
structure Pl where
  plain : Bool
  ty : Option TypeId
  /-- it begins where its block begins -/
  z : Bool
  /-- its block has no more cells than these -/
  ex : Bool

structure PlOK (pl : Pl) (T : TypeId) (fr : Nat × Nat) (off size len : Nat) : Prop where
  p : pl.plain = true → fr = (0, 0)
  t : ∀ t, pl.ty = some t → T = t
  z : pl.z = true → off = 0
  x : pl.ex = true → size = off + len

inductive Blk where
  /-- cells, es for each element; plain: nothing of them was ever frozen -/
  | cells (pl : Pl) (es : Nat) (cs : List Value)
  /-- of a map: its entries, in whatever order; its clock; an entry that is open -/
  | mapI (kd : IntKind) (ks : List (Int × Value)) (cl : Nat) (last : Option (Int × Nat))
  | defer
  /-- a loop over a function -/
  | loop (st : LoopState) (pe : Option Code)
  /-- a text, or a map, that is gone over -/
  | sIter (s : ByteArray) (pos : Nat)
  | mIter (b : Nat)
  | mIterN
  /-- nothing is said of it any more -/
  | dead

inductive KRs (m : Ren) : List (Int × Value) → List (Int × Value) → Prop
  | nil : KRs m [] []
  | cons {n : Int} {x y : Value} {r s : List (Int × Value)} (h : VR m x y) (hs : KRs m r s) : KRs m ((n, x) :: r) ((n, y) :: s)

theorem KRs.imp {m m' : Ren} (h : ∀ b a, m b = some a → m' b = some a) : ∀ {r s : List (Int × Value)}, KRs m r s → KRs m' r s
  | _, _, .nil => .nil
  | _, _, .cons hx hs => .cons (hx.imp h) (KRs.imp h hs)

def ObjR (m : Ren) (a : At) : Obj → Blk → Prop
  | .cells c T fr, .cells pl es cs => (∀ (i : Nat) v, cs[i]? = some v → ∃ v', c[a.off + i]? = some v' ∧ VR m v v') ∧ a.off + cs.length + a.extra * es ≤ c.size ∧ (fr.1 = fr.2 ∨ c.size ≤ fr.1) ∧ PlOK pl T fr a.off c.size cs.length
  | .map es clock, .mapI kd ks cl last => (∃ ks' kp, MapI kd es clock ks' ∧ kp.Perm ks' ∧ KRs m ks kp) ∧ cl = clock ∧ ∀ key bn, last = some (key, bn) → ∃ e ∈ es.toList, e.key = .int kd key ∧ e.born = bn
  | .deferred (some []), .defer => True
  | .loop r, .loop st pe => ∃ r0, m.lp a.blk = some r0 ∧ r = { r0 with state := st, pending := pe }
  | .stringIter s p, .sIter s' p' => s = s' ∧ p = p' ∧ a.off = 0
  | .mapIter (some c) _ _ _, .mIter b => (∃ a', m b = some a' ∧ a'.blk = c) ∧ a.off = 0
  | .mapIter none _ _ _, .mIterN => a.off = 0
  | _, .dead => True
  | _, _ => False

theorem ObjR.imp {m m' : Ren} (h : ∀ b a, m b = some a → m' b = some a) (hl : ∀ c r, m.lp c = some r → m'.lp c = some r) {a : At} {o : Obj} {k : Blk} (hr : ObjR m a o k) : ObjR m' a o k := by
  unfold ObjR at hr ⊢
  split at hr
  · obtain ⟨h1, h2⟩ := hr
    exact ⟨fun i v hv => let ⟨v', e, hvr⟩ := h1 i v hv; ⟨v', e, hvr.imp h⟩, h2⟩
  · obtain ⟨⟨ks', kp, h1, h2, h3⟩, h4⟩ := hr
    exact ⟨⟨ks', kp, h1, h2, h3.imp h⟩, h4⟩
  · trivial
  · obtain ⟨r0, h1, h2⟩ := hr
    exact ⟨r0, hl _ _ h1, h2⟩
  · exact hr
  · obtain ⟨⟨a', h1, h2⟩, h3⟩ := hr
    exact ⟨⟨a', h _ _ h1, h2⟩, h3⟩
  · exact hr
  · trivial
  · exact hr.elim

theorem ObjR.up {m m' : Ren} (h : m.le m') {a : At} {o : Obj} {k : Blk} (hr : ObjR m a o k) : ObjR m' a o k := hr.imp h.at_ h.lp

structure St where
  heap : Tr Blk
  next : Nat

structure Sim (m : Ren) (s : St) (w : World) : Prop where
  obj : ∀ b k, s.heap.get b = some k → k ≠ .dead → ∃ a o, m b = some a ∧ w.heap[a.blk]? = some o ∧ ObjR m a o k
  inj : ∀ b b' k k' a a', s.heap.get b = some k → k ≠ .dead → s.heap.get b' = some k' → k' ≠ .dead → m b = some a → m b' = some a' → a.blk = a'.blk → b = b'
  fresh : ∀ b, s.next ≤ b → m b = none ∧ s.heap.get b = none
  lt : ∀ b a, m b = some a → a.blk < w.heap.size
  fr : Fr m.F m.w0 w
  own : ∀ b k a, s.heap.get b = some k → k ≠ .dead → m b = some a → m.F a.blk ∨ m.w0.heap.size ≤ a.blk
  res : ∀ b, m.R b → m b = none ∧ b < s.next
  lpl : ∀ c r, m.lp c = some r → c < w.heap.size

theorem Sim.drew {m : Ren} {s : St} {w : World} (h : Sim m s w) : Sim m s w.drew := ⟨h.obj, h.inj, h.fresh, h.lt, h.fr.drew, h.own, h.res, h.lpl⟩

/-- a new block -/
def Ren.add (m : Ren) (b : Nat) (a : At) : Ren := ⟨fun x => if x = b then some a else m x, m.w0, m.F, m.R, m.lp⟩

def Ren.addL (m : Ren) (b : Nat) (a : At) (lp : Nat → Option Loop) : Ren := ⟨fun x => if x = b then some a else m x, m.w0, m.F, m.R, lp⟩

theorem Ren.addL_le {m : Ren} {b : Nat} {a : At} {lp : Nat → Option Loop} (h : m b = none) (hl : ∀ c r, m.lp c = some r → lp c = some r) : m.le (m.addL b a lp) := by
  refine ⟨fun x y hx => ?_, rfl, rfl, rfl, hl⟩
  have e : x ≠ b := fun e => by rw [e, h] at hx; cases hx
  show (if x = b then some a else m x) = some y
  rw [if_neg e]
  exact hx

theorem Ren.add_same (m : Ren) (b : Nat) (a : At) : m.add b a b = some a := if_pos rfl
theorem Ren.add_ne (m : Ren) {b x : Nat} (a : At) (h : x ≠ b) : m.add b a x = m x := if_neg h

theorem Ren.add_le {m : Ren} {b : Nat} {a : At} (h : m b = none) : m.le (m.add b a) := by
  refine ⟨fun x y hx => ?_, rfl, rfl, rfl, fun _ _ h => h⟩
  by_cases e : x = b
  · rw [e, h] at hx
    cases hx
  · rw [Ren.add_ne m a e]
    exact hx

noncomputable def St.new (s : St) (k : Blk) : St := ⟨s.heap.set k s.next, s.next + 1⟩
noncomputable def St.put (s : St) (b : Nat) (k : Blk) : St := ⟨s.heap.set k b, s.next⟩

theorem Sim.newG {m : Ren} {s : St} {w : World} (h : Sim m s w) {o : Obj} {k : Blk} {off extra : Nat} {lp : Nat → Option Loop} (hlp : ∀ c r, m.lp c = some r → lp c = some r) (hlt : ∀ c r, lp c = some r → c < w.heap.size + 1)
    (hr : ObjR (m.addL s.next ⟨w.heap.size, off, extra⟩ lp) ⟨w.heap.size, off, extra⟩ o k) :
    m.le (m.addL s.next ⟨w.heap.size, off, extra⟩ lp) ∧ Sim (m.addL s.next ⟨w.heap.size, off, extra⟩ lp) (s.new k) (w.alloc o) := by
  have hn := h.fresh s.next (Nat.le_refl _)
  have hle : m.le (m.addL s.next ⟨w.heap.size, off, extra⟩ lp) := Ren.addL_le hn.1 hlp
  have hsz : (w.alloc o).heap.size = w.heap.size + 1 := by show (w.heap.push o).size = _; simp
  have hold : ∀ i, i < w.heap.size → (w.alloc o).heap[i]? = w.heap[i]? := fun i hi => by
    show (w.heap.push o)[i]? = _
    rw [Array.getElem?_push, if_neg (Nat.ne_of_lt hi)]
  have hnew : (w.alloc o).heap[w.heap.size]? = some o := by
    show (w.heap.push o)[w.heap.size]? = _
    rw [Array.getElem?_push, if_pos rfl]
  have hm : ∀ b, b ≠ s.next → m.addL s.next ⟨w.heap.size, off, extra⟩ lp b = m b := fun b hb => if_neg hb
  have hm0 : m.addL s.next ⟨w.heap.size, off, extra⟩ lp s.next = some ⟨w.heap.size, off, extra⟩ := if_pos rfl
  refine ⟨hle, ⟨?_, ?_, ?_, ?_, h.fr.alloc o, ?_, fun b hb => ?_, fun c r hc => by rw [hsz]; exact hlt c r hc⟩⟩
  · intro b k' hb hd
    unfold St.new at hb
    simp only [get_set] at hb
    split at hb
    · rename_i e
      cases hb
      subst e
      exact ⟨_, o, hm0, hnew, hr⟩
    · rename_i e
      obtain ⟨a, o', h1, h2, h3⟩ := h.obj b k' hb hd
      exact ⟨a, o', by rw [hm b e]; exact h1, by rw [hold _ (h.lt b a h1)]; exact h2, h3.up hle⟩
  · intro b b' k1 k2 a a' hb hd hb' hd' ha ha' e
    unfold St.new at hb hb'
    simp only [get_set] at hb hb'
    by_cases e1 : b = s.next
    · by_cases e2 : b' = s.next
      · rw [e1, e2]
      · exfalso
        rw [e1, hm0] at ha
        rw [hm b' e2] at ha'
        have := h.lt b' a' ha'
        cases ha
        simp only at e
        omega
    · by_cases e2 : b' = s.next
      · exfalso
        rw [e2, hm0] at ha'
        rw [hm b e1] at ha
        have := h.lt b a ha
        cases ha'
        simp only at e
        omega
      · rw [if_neg e1] at hb
        rw [if_neg e2] at hb'
        rw [hm b e1] at ha
        rw [hm b' e2] at ha'
        exact h.inj b b' k1 k2 a a' hb hd hb' hd' ha ha' e
  · intro b hb
    have hb1 : s.next + 1 ≤ b := hb
    have hf := h.fresh b (by omega)
    refine ⟨by rw [hm b (by omega)]; exact hf.1, ?_⟩
    show (s.heap.set k s.next).get b = none
    rw [get_set, if_neg (by omega)]
    exact hf.2
  · intro b a ha
    rw [hsz]
    by_cases e : b = s.next
    · rw [e, hm0] at ha
      cases ha
      exact Nat.lt_succ_self _
    · rw [hm b e] at ha
      have := h.lt b a ha
      omega
  · intro b k' a hb hd ha
    show m.F a.blk ∨ m.w0.heap.size ≤ a.blk
    by_cases e : b = s.next
    · rw [e, hm0] at ha
      cases ha
      exact .inr h.fr.size
    · rw [hm b e] at ha
      unfold St.new at hb
      simp only [get_set] at hb
      rw [if_neg e] at hb
      exact h.own b k' a hb hd ha
  · obtain ⟨h1, h2⟩ := h.res b hb
    exact ⟨by rw [hm b (Nat.ne_of_lt h2)]; exact h1, Nat.lt_succ_of_lt h2⟩

theorem Sim.new {m : Ren} {s : St} {w : World} (h : Sim m s w) {o : Obj} {k : Blk} {off extra : Nat}
    (hr : ObjR (m.add s.next ⟨w.heap.size, off, extra⟩) ⟨w.heap.size, off, extra⟩ o k) :
    m.le (m.add s.next ⟨w.heap.size, off, extra⟩) ∧ Sim (m.add s.next ⟨w.heap.size, off, extra⟩) (s.new k) (w.alloc o) :=
  h.newG (lp := m.lp) (fun _ _ h => h) (fun c r hc => Nat.lt_succ_of_lt (h.lpl c r hc)) hr

theorem Sim.put {m : Ren} {s : St} {w : World} (h : Sim m s w) {b : Nat} {k k' : Blk} {a : At} {o' : Obj} (hb : s.heap.get b = some k) (hd : k ≠ .dead) (ha : m b = some a) (hr : ObjR m a o' k') :
    Sim m (s.put b k') (w.putObj a.blk o') := by
  have hlt := h.lt b a ha
  refine ⟨?_, ?_, ?_, ?_, h.fr.put o' (fun hl => (h.own b k a hb hd ha).resolve_right (Nat.not_le.2 hl)), ?_, h.res, fun c r hc => by simpa [World.putObj] using h.lpl c r hc⟩
  · intro c kc hc hdc
    unfold St.put at hc
    simp only [get_set] at hc
    split at hc
    · rename_i e
      cases hc
      subst e
      exact ⟨a, o', ha, by simp [World.putObj, hlt], hr⟩
    · rename_i e
      obtain ⟨a2, o2, h1, h2, h3⟩ := h.obj c kc hc hdc
      refine ⟨a2, o2, h1, ?_, h3⟩
      have hne : a2.blk ≠ a.blk := fun e2 => e (h.inj c b kc k a2 a hc hdc hb hd h1 ha e2)
      simp only [World.putObj, Array.getElem?_setIfInBounds]
      rw [if_neg (fun e2 => hne e2.symm)]
      exact h2
  · intro c c' kc kc' a1 a2 hc hdc hc' hdc' h1 h2 e
    have key : ∀ x kx, (s.put b k').heap.get x = some kx → kx ≠ .dead → ∃ ky, s.heap.get x = some ky ∧ ky ≠ .dead := by
      intro x kx hx hdx
      unfold St.put at hx
      simp only [get_set] at hx
      split at hx
      · rename_i e; rw [e]; exact ⟨k, hb, hd⟩
      · exact ⟨kx, hx, hdx⟩
    obtain ⟨k1, g1, d1⟩ := key c kc hc hdc
    obtain ⟨k2, g2, d2⟩ := key c' kc' hc' hdc'
    exact h.inj c c' k1 k2 a1 a2 g1 d1 g2 d2 h1 h2 e
  · intro c hc
    have hf := h.fresh c hc
    refine ⟨hf.1, ?_⟩
    show (s.heap.set k' b).get c = none
    rw [get_set, if_neg]
    · exact hf.2
    · intro e
      rw [e, hb] at hf
      exact absurd hf.2 (by simp)
  · intro c a2 h2
    have := h.lt c a2 h2
    simpa [World.putObj] using this
  · intro c kc a2 hc hdc h2
    unfold St.put at hc
    simp only [get_set] at hc
    split at hc
    · rename_i e
      subst e
      exact h.own c k a2 hb hd h2
    · exact h.own c kc a2 hc hdc h2

end Go.X

/-
  THE EXECUTOR, part 3: reading, writing and making rows of cells. Own work; generic in the program.
-/
set_option linter.unusedVariables false
namespace Go.X
open Go Go.V Go.RowKit

theorem VR.one {m : Ren} {x y : Value} (h : VR m x y) : x.oneCell' = y.oneCell' := by
  cases h <;> rfl

theorem VRs.one {m : Ren} : ∀ {xs ys : List Value}, VRs m xs ys → (∀ x ∈ xs, x.oneCell' = true) → ∀ y ∈ ys, y.oneCell' = true
  | _, _, .nil, _, y, hy => by cases hy
  | _, _, .cons hx hs, h, y, hy => by
    rcases List.mem_cons.1 hy with rfl | hy
    · rw [← hx.one]; exact h _ (List.mem_cons_self)
    · exact VRs.one hs (fun x hx => h x (List.mem_cons_of_mem _ hx)) y hy

theorem VRs.of_get {m : Ren} : ∀ {xs ys : List Value}, xs.length = ys.length → (∀ (i : Nat) x, xs[i]? = some x → ∃ y, ys[i]? = some y ∧ VR m x y) → VRs m xs ys
  | [], [], _, _ => .nil
  | [], _ :: _, h, _ => by simp at h
  | _ :: _, [], h, _ => by simp at h
  | x :: xs, y :: ys, hl, h => by
    obtain ⟨y', e, hr⟩ := h 0 x rfl
    simp only [List.getElem?_cons_zero, Option.some.injEq] at e
    subst e
    exact .cons hr (VRs.of_get (by simpa using hl) fun i z hz => by
      obtain ⟨u, hu, hv⟩ := h (i + 1) z (by simpa using hz)
      exact ⟨u, by simpa using hu, hv⟩)

theorem spl_get {z cs : List Value} {o : Nat} (h : o + cs.length ≤ z.length) (i : Nat) : (spl z o cs)[i]? = if i < o then z[i]? else if i < o + cs.length then cs[i - o]? else z[i]? := by
  unfold V.spl
  have h0 : (z.take o).length = o := by rw [List.length_take]; omega
  rw [List.append_assoc, List.getElem?_append, h0]
  split
  · rename_i hi
    rw [List.getElem?_take_of_lt hi]
  · rename_i hi
    rw [List.getElem?_append]
    split
    · rename_i h1
      rw [if_pos (by omega)]
    · rename_i h1
      rw [if_neg (by omega), List.getElem?_drop]
      congr 1
      omega

/-! ### Reading -/

noncomputable def readC (st : St) (b o n : Nat) : Option (List Value) :=
  match st.heap.get b with
  | some (.cells _ _ cs) => if o + n ≤ cs.length then some ((cs.drop o).take n) else none
  | _ => none

theorem Sim.cells {m : Ren} {st : St} {w : World} (hs : Sim m st w) {b es : Nat} {pl : Pl} {cs : List Value} (hb : st.heap.get b = some (.cells pl es cs)) {a : At} (ha : m b = some a) :
    ∃ c T fr, w.heap[a.blk]? = some (.cells c T fr) ∧ (∀ (i : Nat) v, cs[i]? = some v → ∃ v', c[a.off + i]? = some v' ∧ VR m v v') ∧ a.off + cs.length + a.extra * es ≤ c.size ∧ (fr.1 = fr.2 ∨ c.size ≤ fr.1) ∧ PlOK pl T fr a.off c.size cs.length := by
  obtain ⟨a', o, h1, h2, h3⟩ := hs.obj b _ hb (by intro e; cases e)
  rw [ha] at h1
  cases h1
  unfold ObjR at h3
  split at h3
  · rename_i c T fr pl' es' cs' e
    cases e
    exact ⟨c, T, fr, h2, h3⟩
  · rename_i e; cases e
  · rename_i e; cases e
  · rename_i e; cases e
  · rename_i e; cases e
  · rename_i e; cases e
  · rename_i e; cases e
  · rename_i e; cases e
  · exact h3.elim

theorem read_ok {m : Ren} {st : St} {w : World} (hs : Sim m st w) {b o n : Nat} {a : At} (ha : m b = some a) {l : List Value} (h : readC st b o n = some l) :
    ∃ l', VRs m l l' ∧ l'.length = n ∧ ∀ (j : Nat) v, l'[j]? = some v → w.cell? ((⟨a.blk, a.off + o, none⟩ : Addr).add j) = some v := by
  unfold readC at h
  split at h <;> try (cases h; done)
  rename_i pl es cs hb
  split at h <;> try (cases h; done)
  rename_i hle
  cases h
  obtain ⟨c, T, fr, hc, hg, hz, _⟩ := hs.cells hb ha
  have hcs : c.toList.length = c.size := by simp
  have hlen : ((c.toList.drop (a.off + o)).take n).length = n := by
    rw [List.length_take, List.length_drop, hcs]
    have : a.off + (o + n) ≤ c.size := by omega
    omega
  refine ⟨(c.toList.drop (a.off + o)).take n, VRs.of_get ?_ ?_, hlen, ?_⟩
  · rw [hlen, List.length_take, List.length_drop]; omega
  · intro i x hx
    have hi : i < n := by
      have := (List.getElem?_eq_some_iff.1 hx).1
      rw [List.length_take] at this
      omega
    rw [List.getElem?_take_of_lt hi, List.getElem?_drop] at hx
    obtain ⟨v', e, hr⟩ := hg (o + i) x hx
    refine ⟨v', ?_, hr⟩
    rw [List.getElem?_take_of_lt hi, List.getElem?_drop, Array.getElem?_toList, Nat.add_assoc]
    exact e
  · intro j v hj
    have hi : j < n := by
      have := (List.getElem?_eq_some_iff.1 hj).1
      rw [hlen] at this
      exact this
    rw [List.getElem?_take_of_lt hi, List.getElem?_drop, Array.getElem?_toList] at hj
    rw [add_off, getD_cell hc]
    exact hj

noncomputable def xLd (st : St) (d : LD) (x : Value) : Option Value :=
  match d, x with
  | .one, .pointer (some ⟨b, o, none⟩) => match readC st b o 1 with
    | some [v] => some v
    | _ => none
  | .agg n, .pointer (some ⟨b, o, none⟩) => match readC st b o n with
    | some l => some (.agg ⟨l⟩)
    | none => none
  | _, _ => none

theorem xLd_ok {m : Ren} {st : St} {w : World} (hs : Sim m st w) {d : LD} {x x' v : Value} {K : Value → Prop} (hx : VR m x x') (h : xLd st d x = some v) (hk : ∀ v', VR m v v' → K v') : vLd d x' w K := by
  unfold xLd at h
  unfold vLd
  cases hx <;> cases d <;> simp only at h ⊢ <;> try (cases h; done)
  · rename_i b o a ha
    split at h <;> try (cases h; done)
    rename_i u hr
    cases h
    obtain ⟨l', h1, h2, h3⟩ := read_ok hs ha hr
    cases h1
    rename_i y ys hy hys
    cases hys
    have := h3 0 y rfl
    rw [add_off, Nat.add_zero] at this
    unfold ld1
    rw [this]
    exact hk _ hy
  · rename_i b o a ha n
    split at h <;> try (cases h; done)
    rename_i l hr
    cases h
    obtain ⟨l', h1, h2, h3⟩ := read_ok hs ha hr
    exact ⟨l', h2, h3, hk _ (.agg h1)⟩

/-! ### Writing -/

noncomputable def writeC (st : St) (b o : Nat) (vs : List Value) : Option St :=
  match st.heap.get b with
  | some (.cells pl es cs) => if o + vs.length ≤ cs.length then if vs.all (fun v => v.oneCell') = true then some (st.put b (.cells pl es (spl cs o vs))) else none else none
  | _ => none

theorem write_ok {m : Ren} {st st' : St} {w : World} (hs : Sim m st w) {b o : Nat} {a : At} (ha : m b = some a) {vs vs' : List Value} (hv : VRs m vs vs') (h : writeC st b o vs = some st') {K : World → Prop}
    (hk : ∀ w', Sim m st' w' → K w') : stN w ⟨a.blk, a.off + o, none⟩ vs' K := by
  unfold writeC at h
  split at h <;> try (cases h; done)
  rename_i pl es cs hb
  split at h <;> try (cases h; done)
  rename_i hle
  split at h <;> try (cases h; done)
  rename_i hone
  cases h
  obtain ⟨c, T, fr, hc, hg, hz, hf, hp⟩ := hs.cells hb ha
  have hl := hv.length
  have hcs : c.toList.length = c.size := by simp
  have hle' : a.off + o + vs'.length ≤ c.size := by omega
  have hsl : (spl c.toList (a.off + o) vs').length = c.size := by rw [spl_length (by rw [hcs]; exact hle'), hcs]
  unfold stN
  simp only [hc]
  refine ⟨trivial, hle', ?_, hv.one (fun x hx => List.all_eq_true.1 hone x hx), ?_⟩
  · rcases hf with hf | hf
    · exact .inl hf
    · exact .inr (.inl (by omega))
  · refine hk _ (hs.put hb (by intro e; cases e) ha ?_)
    unfold ObjR
    refine ⟨fun i v hi => ?_, ?_, ?_, ⟨hp.p, hp.t, hp.z, fun e => by rw [spl_length hle]; simp only [List.size_toArray, hsl]; exact hp.x e⟩⟩
    · rw [spl_get hle] at hi
      rw [List.getElem?_toArray, spl_get (by rw [hcs]; exact hle')]
      by_cases h1 : i < o
      · rw [if_pos h1] at hi
        rw [if_pos (by omega), Array.getElem?_toList]
        exact hg i v hi
      · rw [if_neg h1] at hi
        by_cases h2 : i < o + vs.length
        · rw [if_pos h2] at hi
          rw [if_neg (by omega), if_pos (by omega)]
          have e : a.off + i - (a.off + o) = i - o := by omega
          rw [e]
          exact hv.get _ hi
        · rw [if_neg h2] at hi
          rw [if_neg (by omega), if_neg (by omega), Array.getElem?_toList]
          exact hg i v hi
    · rw [spl_length hle]
      simp only [List.size_toArray, hsl]
      exact hz
    · simp only [List.size_toArray, hsl]
      exact hf

theorem write1_ok {m : Ren} {st st' : St} {w : World} (hs : Sim m st w) {b o : Nat} {a : At} (ha : m b = some a) {v v' : Value} (hv : VR m v v') (h : writeC st b o [v] = some st') {K : World → Prop}
    (hk : ∀ w', Sim m st' w' → K w') : st1 w ⟨a.blk, a.off + o, none⟩ v' K := by
  have := write_ok hs ha (.cons hv .nil) h hk
  unfold stN at this
  unfold st1
  split at this <;> try (exact this.elim)
  rename_i c T fr hc
  obtain ⟨h1, h2, h3, h4, h5⟩ := this
  simp only [hc]
  simp only [List.length_cons, List.length_nil, Nat.zero_add] at h2 h3
  refine ⟨trivial, by omega, ?_, h4 v' (by simp), ?_⟩
  · rcases h3 with h3 | h3 | h3
    · exact .inl h3
    · exact .inr (.inl (by omega))
    · exact .inr (.inr h3)
  · have e : (spl c.toList (a.off + o) [v']).toArray = c.setIfInBounds (a.off + o) v' := by
      apply Array.toList_inj.1
      apply List.ext_getElem?
      intro i
      rw [spl_get (by simp; omega)]
      simp only [Array.toList_setIfInBounds, List.getElem?_set, List.length_cons, List.length_nil]
      by_cases e1 : i < a.off + o
      · rw [if_pos e1, if_neg (by omega)]
      · rw [if_neg e1]
        by_cases e2 : i = a.off + o
        · subst e2
          simp
          omega
        · rw [if_neg (by omega), if_neg (by omega)]
    rw [← e]
    exact h5

noncomputable def xSt (st : St) (n : Option Nat) (x v : Value) : Option St :=
  match n, x with
  | some n, .pointer (some ⟨b, o, none⟩) => match v with
    | .agg vs => if vs.toList.length = n then writeC st b o vs.toList else none
    | v => if n = 1 then writeC st b o [v] else none
  | _, _ => none

theorem xSt_ok {m : Ren} {st st' : St} {w : World} (hs : Sim m st w) {n : Option Nat} {x x' v v' : Value} {K : World → Prop} (hx : VR m x x') (hv : VR m v v') (h : xSt st n x v = some st')
    (hk : ∀ w', Sim m st' w' → K w') : vSt n x' v' w K := by
  unfold xSt at h
  unfold vSt
  cases hx <;> cases n <;> simp only at h ⊢ <;> try (cases h; done)
  rename_i b o a ha n
  cases hv <;> simp only at h ⊢
  case agg xs ys hxy =>
    split at h <;> try (cases h; done)
    rename_i hn
    refine ⟨?_, write_ok hs ha hxy h hk⟩
    rw [← hn, hxy.length]
    simp
  all_goals
    split at h <;> try (cases h; done)
    rename_i hn
    exact ⟨hn, write1_ok hs ha (by constructor <;> assumption) h hk⟩

end Go.X

/-
  THE EXECUTOR, part 4: new rows of cells, append. Own work; generic in the program.
-/
set_option linter.unusedVariables false
namespace Go.X
open Go Go.V Go.RowKit

/-- a value of one cell without an address -/
def closedV (v : Value) : Bool :=
  match v with
  | .bool _ => true
  | .int _ _ => true
  | .string _ => true
  | .pointer none => true
  | .slice none 0 0 => true
  | .map none => true
  | .nilFunc => true
  | .nilIface => true
  | _ => false

theorem closedV_ok {v : Value} (h : closedV v = true) : plainR v := by
  intro m
  unfold closedV at h
  split at h <;> first | (constructor; done) | cases h

theorem closed_all {m : Ren} : ∀ {l : List Value}, l.all closedV = true → VRs m l l
  | [], _ => .nil
  | v :: l, h => by
    simp only [List.all_cons, Bool.and_eq_true] at h
    exact .cons (closedV_ok h.1 m) (closed_all h.2)

theorem VRs.rep {m : Ren} {z z' : List Value} (h : VRs m z z') (n : Nat) : VRs m (repZ z n) (repZ z' n) := by
  unfold repZ
  induction n with
  | zero => exact .nil
  | succ n ih =>
    rw [List.replicate_succ, List.replicate_succ, List.flatten_cons, List.flatten_cons]
    exact h.append ih

/-- a new block whose cells are told, all of them -/
theorem new_ok {m : Ren} {st : St} {w : World} (hs : Sim m st w) {vs vs' : List Value} (hv : VRs m vs vs') (es : Nat) (T : TypeId) :
    ∃ m', m.le m' ∧ m' st.next = some ⟨w.heap.size, 0, 0⟩ ∧ Sim m' (st.new (.cells ⟨true, some T, true, true⟩ es vs)) (w.alloc (.cells ⟨vs'⟩ T)) := by
  have hle := Ren.add_le (a := ⟨w.heap.size, 0, 0⟩) (hs.fresh st.next (Nat.le_refl _)).1
  obtain ⟨h1, h2⟩ := hs.new (o := .cells ⟨vs'⟩ T) (k := .cells ⟨true, some T, true, true⟩ es vs) (off := 0) (extra := 0) (by
    unfold ObjR
    refine ⟨fun i v hi => ?_, ?_, .inl rfl, ⟨fun _ => rfl, fun t e => Option.some.inj e, fun _ => rfl, fun _ => by have := hv.length; simp [this]⟩⟩
    · obtain ⟨y, hy, hr⟩ := hv.get i hi
      exact ⟨y, by simpa using hy, hr.up hle⟩
    · have := hv.length
      simp [this])
  exact ⟨_, h1, Ren.add_same _ _ _, h2⟩

theorem ptr_new {m : Ren} {b c : Nat} (h : m b = some ⟨c, 0, 0⟩) : VR m (.pointer (some ⟨b, 0, none⟩)) (.pointer (some ⟨c, 0, none⟩)) := .ptr h

theorem sl_new {m : Ren} {b c n k : Nat} (h : m b = some ⟨c, 0, 0⟩) (hk : k < far) : VR m (.slice (some ⟨b, 0, none⟩) n k) (.slice (some ⟨c, 0, none⟩) n k) := by
  have := VR.sl (n := n) (k := k) (o := 0) h
  unfold capOf at this
  have e : Nat.blt k far = true := by rw [Nat.blt_eq]; exact hk
  rw [e] at this
  exact this

abbrev Out (m : Ren) (st' : St) (v : Value) (K : Value → World → Prop) : Prop := ∀ m' v' w', m.le m' → VR m' v v' → Sim m' st' w' → K v' w'

noncomputable def xAlloc (P : Program) (st : St) (e : TypeId) : Option (Value × St) :=
  match zc P e with
  | some z => if z.toList.all closedV = true then some (.pointer (some ⟨st.next, 0, none⟩), st.new (.cells ⟨true, some e, true, true⟩ 1 z.toList)) else none
  | none => none

theorem xAlloc_ok {P : Program} {m : Ren} {st st' : St} {w : World} (hs : Sim m st w) {e : TypeId} {v : Value} {K : Value → World → Prop} (h : xAlloc P st e = some (v, st')) (hk : Out m st' v K) : vAlloc P e w K := by
  unfold xAlloc at h
  unfold vAlloc
  split at h <;> try (cases h; done)
  rename_i z hz
  split at h <;> try (cases h; done)
  rename_i hc
  cases h
  simp only [hz]
  obtain ⟨m', h1, h2, h3⟩ := new_ok hs (closed_all (m := m) hc) 1 e
  exact hk m' _ _ h1 (ptr_new h2) h3

noncomputable def xBox (e : TypeId) (st : St) (v : Value) : Value × St := (.pointer (some ⟨st.next, 0, none⟩), st.new (.cells ⟨true, some e, true, true⟩ 1 v.cells.toList))

theorem xBox_ok {m : Ren} {st : St} {w : World} (hs : Sim m st w) {e : TypeId} {v v' : Value} {K : Value → World → Prop} (hv : VR m v v') (hk : Out m (xBox e st v).2 (xBox e st v).1 K) : vBox e v' w K := by
  obtain ⟨m', h1, h2, h3⟩ := new_ok hs hv.cells 1 e
  exact hk m' _ _ h1 (ptr_new h2) h3

noncomputable def xBuildSlice (P : Program) (st : St) (t : TypeId) (len : Nat) (parts : List (Nat × Value)) : Option (Value × St) :=
  match P.underlying t with
  | some (.slice e) => match P.info? e, zc P e with
    | some i, some z => if len * i.size ≤ 16777216 then if len < far then if z.toList.length = i.size then if z.toList.all closedV = true then
        match xFill (slPlace len i.size) (repZ z.toList len) parts with
        | some cs => some (.slice (some ⟨st.next, 0, none⟩) len len, st.new (.cells ⟨true, some e, true, true⟩ i.size cs))
        | none => none
      else none else none else none else none
    | _, _ => none
  | _ => none

theorem xBuildSlice_ok {P : Program} {m : Ren} {st st' : St} {w : World} (hs : Sim m st w) {t : TypeId} {len : Nat} {ps ps' : List (Nat × Value)} {v : Value} {K : Value → World → Prop} (hp : PRs m ps ps')
    (h : xBuildSlice P st t len ps = some (v, st')) (hk : Out m st' v K) : vBuildSlice P t len ps' w K := by
  unfold xBuildSlice at h
  unfold vBuildSlice
  split at h <;> try (cases h; done)
  rename_i e he
  split at h <;> try (cases h; done)
  rename_i i z hi hz
  split at h <;> try (cases h; done)
  rename_i h1
  split at h <;> try (cases h; done)
  rename_i h2
  split at h <;> try (cases h; done)
  rename_i h3
  split at h <;> try (cases h; done)
  rename_i h4
  split at h <;> try (cases h; done)
  rename_i cs hf
  cases h
  simp only [he, hi, hz]
  refine ⟨by simpa using h1, by simpa using h3, ?_⟩
  refine xFill_ok hp (VRs.rep (closed_all (m := m) h4) len) hf fun out ho => ?_
  obtain ⟨m', g1, g2, g3⟩ := new_ok hs ho i.size e
  exact hk m' _ _ g1 (sl_new g2 h2) g3

noncomputable def xMakeSlice (P : Program) (st : St) (t : TypeId) (l c : Value) : Option (Value × St) :=
  match P.underlying t with
  | some (.slice e) => match P.info? e, zc P e, l, c with
    | some i, some z, .int _ l, .int _ c => if 0 ≤ l then if l ≤ c then if c ≤ 140737488355328 then if c * i.bytes ≤ 140737488355328 then if z.toList.length = i.size then if z.toList.all closedV = true then
        some (.slice (some ⟨st.next, 0, none⟩) l.toNat c.toNat, st.new (.cells ⟨true, some e, true, true⟩ i.size (repZ z.toList c.toNat)))
      else none else none else none else none else none else none
    | _, _, _, _ => none
  | _ => none

theorem xMakeSlice_ok {P : Program} {m : Ren} {st st' : St} {w : World} (hs : Sim m st w) {t : TypeId} {l c l' c' v : Value} {K : Value → World → Prop} (hl : VR m l l') (hc : VR m c c')
    (h : xMakeSlice P st t l c = some (v, st')) (hk : Out m st' v K) : vMakeSlice P t l' c' w K := by
  unfold xMakeSlice at h
  unfold vMakeSlice
  split at h <;> try (cases h; done)
  rename_i e he
  split at h <;> try (cases h; done)
  rename_i i z kl l kc c hi hz
  cases hl
  cases hc
  split at h <;> try (cases h; done)
  rename_i h0
  split at h <;> try (cases h; done)
  rename_i h1
  split at h <;> try (cases h; done)
  rename_i h2
  split at h <;> try (cases h; done)
  rename_i h3
  split at h <;> try (cases h; done)
  rename_i h4
  split at h <;> try (cases h; done)
  rename_i h5
  cases h
  simp only [he, hi, hz]
  refine ⟨h0, h1, h2, h3, by simpa using h4, ?_⟩
  obtain ⟨m', g1, g2, g3⟩ := new_ok hs (VRs.rep (closed_all (m := m) h5) c.toNat) i.size e
  exact hk m' _ _ g1 (sl_new g2 (by unfold far; omega)) g3

/-! ### append -/

/-- a block's place in the world goes to a new one -/
theorem Sim.move {m : Ren} {s : St} {w : World} (h : Sim m s w) {b : Nat} {k k' : Blk} {a : At} {o' : Obj} {off extra : Nat} (hb : s.heap.get b = some k) (hd : k ≠ .dead) (ha : m b = some a)
    (hr : ObjR (m.add s.next ⟨a.blk, off, extra⟩) ⟨a.blk, off, extra⟩ o' k') :
    m.le (m.add s.next ⟨a.blk, off, extra⟩) ∧ Sim (m.add s.next ⟨a.blk, off, extra⟩) ((s.put b .dead).new k') (w.putObj a.blk o') := by
  have hn := h.fresh s.next (Nat.le_refl _)
  have hle : m.le (m.add s.next ⟨a.blk, off, extra⟩) := Ren.add_le hn.1
  have hlt := h.lt b a ha
  have hm : ∀ x, x ≠ s.next → m.add s.next ⟨a.blk, off, extra⟩ x = m x := fun x hx => Ren.add_ne m _ hx
  have hm0 : m.add s.next ⟨a.blk, off, extra⟩ s.next = some ⟨a.blk, off, extra⟩ := Ren.add_same _ _ _
  have hg : ∀ x, ((s.put b .dead).new k').heap.get x = if x = s.next then some k' else if x = b then some .dead else s.heap.get x := by
    intro x
    show ((s.heap.set Blk.dead b).set k' s.next).get x = _
    rw [get_set, get_set]
  have old : ∀ x kx, ((s.put b .dead).new k').heap.get x = some kx → kx ≠ .dead → x ≠ s.next → x ≠ b ∧ s.heap.get x = some kx := by
    intro x kx hx hdx hne
    rw [hg, if_neg hne] at hx
    split at hx
    · cases hx; exact absurd rfl hdx
    · rename_i e; exact ⟨e, hx⟩
  refine ⟨hle, ⟨?_, ?_, ?_, ?_, h.fr.put o' (fun hl => (h.own b k a hb hd ha).resolve_right (Nat.not_le.2 hl)), ?_, fun x hx => ?_, fun c r hc => by simpa [World.putObj] using h.lpl c r hc⟩⟩
  · intro x kx hx hdx
    by_cases e : x = s.next
    · rw [hg, if_pos e] at hx
      cases hx
      subst e
      exact ⟨_, o', hm0, by simp [World.putObj, hlt], hr⟩
    · obtain ⟨e2, hx'⟩ := old x kx hx hdx e
      obtain ⟨a2, o2, h1, h2, h3⟩ := h.obj x kx hx' hdx
      refine ⟨a2, o2, by rw [hm x e]; exact h1, ?_, h3.up hle⟩
      have hne : a2.blk ≠ a.blk := fun e3 => e2 (h.inj x b kx k a2 a hx' hdx hb hd h1 ha e3)
      simp only [World.putObj, Array.getElem?_setIfInBounds]
      rw [if_neg (fun e3 => hne e3.symm)]
      exact h2
  · intro x y kx ky a1 a2 hx hdx hy hdy h1 h2 e
    by_cases ex : x = s.next
    · by_cases ey : y = s.next
      · rw [ex, ey]
      · exfalso
        obtain ⟨e2, hy'⟩ := old y ky hy hdy ey
        rw [ex, hm0] at h1
        rw [hm y ey] at h2
        cases h1
        exact e2 (h.inj y b ky k a2 a hy' hdy hb hd h2 ha e.symm)
    · obtain ⟨e2, hx'⟩ := old x kx hx hdx ex
      rw [hm x ex] at h1
      by_cases ey : y = s.next
      · exfalso
        rw [ey, hm0] at h2
        cases h2
        exact e2 (h.inj x b kx k a1 a hx' hdx hb hd h1 ha e)
      · obtain ⟨e3, hy'⟩ := old y ky hy hdy ey
        rw [hm y ey] at h2
        exact h.inj x y kx ky a1 a2 hx' hdx hy' hdy h1 h2 e
  · intro x hx
    have hx1 : s.next + 1 ≤ x := hx
    have hf := h.fresh x (by omega)
    refine ⟨by rw [hm x (by omega)]; exact hf.1, ?_⟩
    rw [hg, if_neg (by omega), if_neg]
    · exact hf.2
    · intro e
      rw [e, hb] at hf
      exact absurd hf.2 (by simp)
  · intro x a2 h2
    have hsz : (w.putObj a.blk o').heap.size = w.heap.size := by simp [World.putObj]
    rw [hsz]
    by_cases e : x = s.next
    · rw [e, hm0] at h2
      cases h2
      exact hlt
    · rw [hm x e] at h2
      exact h.lt x a2 h2
  · intro x kx a2 hx hdx h2
    show m.F a2.blk ∨ m.w0.heap.size ≤ a2.blk
    by_cases e : x = s.next
    · rw [e, hm0] at h2
      cases h2
      exact h.own b k a hb hd ha
    · rw [hm x e] at h2
      exact h.own x kx a2 (old x kx hx hdx e).2 hdx h2
  · obtain ⟨h1, h2⟩ := h.res x hx
    exact ⟨by rw [hm x (Nat.ne_of_lt h2)]; exact h1, Nat.lt_succ_of_lt h2⟩

noncomputable def xSrc (st : St) (es n : Nat) (x : Value) : Option (List Value) :=
  match x with
  | .slice (some ⟨b, o, none⟩) _ _ => readC st b o (n * es)
  | .slice (some ⟨b, o, some d⟩) _ _ => if n * es = 0 then match readC st b o 0, readC st b (o + d) 0 with
    | some [], some [] => some []
    | _, _ => none
    else none
  | .slice none _ _ => if n = 0 then some [] else none
  | .string s => if es = 1 then some ((s.data.toList.take n).map fun b => .int .u8 b.toNat) else none
  | _ => none

theorem bytes_vrs {m : Ren} (l : List UInt8) : VRs m (l.map fun b => (Value.int .u8 b.toNat)) (l.map fun b => .int .u8 b.toNat) := by
  induction l with
  | nil => exact .nil
  | cons b l ih => exact .cons (.int _ _) ih

theorem xSrc_ok {m : Ren} {st : St} {w : World} (hs : Sim m st w) {es n : Nat} {x x' : Value} {l : List Value} {K : List Value → Prop} (hx : VR m x x') (h : xSrc st es n x = some l) (hk : ∀ l', VRs m l l' → K l') : srcV es n x' w K := by
  unfold xSrc at h
  unfold srcV
  cases hx <;> simp only at h ⊢ <;> try (cases h; done)
  · split at h <;> try (cases h; done)
    rename_i e
    cases h
    exact ⟨e, hk _ (bytes_vrs _)⟩
  · split at h <;> try (cases h; done)
    rename_i e
    cases h
    exact ⟨e, hk _ .nil⟩
  · rename_i b o n' k a ha
    obtain ⟨l', h1, h2, h3⟩ := read_ok hs ha h
    exact ⟨l', h2, h3, hk _ h1⟩
  · rename_i b o d k a ha
    split at h <;> try (cases h; done)
    rename_i e0
    split at h <;> try (cases h; done)
    rename_i r1 r2
    cases h
    rw [e0]
    by_cases e : capOf a k = 0
    · rw [if_pos e, Nat.add_zero]
      obtain ⟨l', h1, h2, h3⟩ := read_ok hs ha r1
      exact ⟨l', h2, h3, hk _ h1⟩
    · rw [if_neg e, Nat.add_assoc]
      obtain ⟨l', h1, h2, h3⟩ := read_ok hs ha r2
      exact ⟨l', h2, h3, hk _ h1⟩

end Go.X

/-
  THE EXECUTOR, part 5: append. Own work; generic in the program.
-/
set_option linter.unusedVariables false
set_option maxRecDepth 20000
namespace Go.X
open Go Go.V Go.RowKit

theorem VR.len {m : Ren} {x y : Value} (h : VR m x y) : lenV x = lenV y := by
  cases h <;> rfl

/-- a new block with elements beyond those that are told -/
theorem spare_ok {m : Ren} {st : St} {w : World} (hs : Sim m st w) {vs vs' z' : List Value} (hv : VRs m vs vs') (pl : Pl) (es extra : Nat) (T : TypeId) (hpl : ∀ t, pl.ty = some t → T = t) (hpx : pl.ex = false) (hz : z'.length = extra * es) :
    ∃ m', m.le m' ∧ m' st.next = some ⟨w.heap.size, 0, extra⟩ ∧ Sim m' (st.new (.cells pl es vs)) (w.alloc (.cells (vs' ++ z').toArray T)) := by
  have hle := Ren.add_le (a := ⟨w.heap.size, 0, extra⟩) (hs.fresh st.next (Nat.le_refl _)).1
  obtain ⟨h1, h2⟩ := hs.new (o := .cells (vs' ++ z').toArray T) (k := .cells pl es vs) (off := 0) (extra := extra) (by
    unfold ObjR
    refine ⟨fun i v hi => ?_, ?_, .inl rfl, ⟨fun _ => rfl, hpl, fun _ => rfl, fun e => by rw [hpx] at e; cases e⟩⟩
    · obtain ⟨y, hy, hr⟩ := hv.get i hi
      have hlt := (List.getElem?_eq_some_iff.1 hy).1
      exact ⟨y, by rw [List.getElem?_toArray, Nat.zero_add, List.getElem?_append_left hlt]; exact hy, hr.up hle⟩
    · have := hv.length
      simp [this, hz])
  exact ⟨_, h1, Ren.add_same _ _ _, h2⟩

theorem Sim.kill {m : Ren} {s : St} {w : World} (h : Sim m s w) {b : Nat} {k : Blk} (hb : s.heap.get b = some k) : Sim m (s.put b .dead) w := by
  have old : ∀ x kx, (s.put b .dead).heap.get x = some kx → kx ≠ .dead → s.heap.get x = some kx := by
    intro x kx hx hdx
    unfold St.put at hx
    simp only [get_set] at hx
    split at hx
    · cases hx; exact absurd rfl hdx
    · exact hx
  refine ⟨fun x kx hx hdx => h.obj x kx (old x kx hx hdx) hdx, fun x y kx ky a1 a2 hx hdx hy hdy => h.inj x y kx ky a1 a2 (old x kx hx hdx) hdx (old y ky hy hdy) hdy, fun x hx => ?_, h.lt, h.fr, fun x kx a2 hx hdx h2 => h.own x kx a2 (old x kx hx hdx) hdx h2, h.res, h.lpl⟩
  have hf := h.fresh x hx
  refine ⟨hf.1, ?_⟩
  show (s.heap.set Blk.dead b).get x = none
  rw [get_set, if_neg]
  · exact hf.2
  · intro e
    rw [e, hb] at hf
    exact absurd hf.2 (by simp)

theorem cap_far (a : At) (k : Nat) : capOf a (far + k) = k + a.extra := by
  unfold capOf
  have e : Nat.blt (far + k) far = false := by
    cases h : Nat.blt (far + k) far
    · rfl
    · rw [Nat.blt_eq] at h; omega
  rw [e]
  simp

theorem cap_near (a : At) {k : Nat} (h : k < far) : capOf a k = k := by
  unfold capOf
  have e : Nat.blt k far = true := by rw [Nat.blt_eq]; exact h
  rw [e]; rfl

theorem cap_ge (a : At) {k : Nat} (h : ¬ k < far) : capOf a k = k - far + a.extra := by
  unfold capOf
  have e : Nat.blt k far = false := by
    cases h' : Nat.blt k far
    · rfl
    · rw [Nat.blt_eq] at h'; exact absurd h' h
  rw [e]; rfl

/-- a row that is longer, in a block of its own -/
noncomputable def xLong (st : St) (pl : Pl) (es k bytes : Nat) (vs : List Value) : Option (Value × St) :=
  if k * bytes ≤ 140737488355328 then if k ≤ 140737488355328 then if vs.length = k * es then
    some (.slice (some ⟨st.next, 0, none⟩) k (far + k), st.new (.cells pl es vs)) else none else none else none

theorem xLong_ok {m : Ren} {st st' : St} {w : World} (hs : Sim m st w) {pl : Pl} {es k bytes : Nat} {vs vs' : List Value} {v : Value} (hv : VRs m vs vs') {z : List Value} (hz : z.length = es) (e : TypeId) (hpl : ∀ t, pl.ty = some t → e = t) (hpx : pl.ex = false) {K : Value → World → Prop}
    (h : xLong st pl es k bytes vs = some (v, st')) (hk : Out m st' v K) :
    k * bytes ≤ 140737488355328 ∧ k ≤ 140737488355328 ∧ ∀ c, k ≤ c → K (.slice (some ⟨w.heap.size, 0, none⟩) k c) (w.drew.alloc (.cells (vs' ++ repZ z (c - k)).toArray e)) := by
  unfold xLong at h
  split at h <;> try (cases h; done)
  rename_i h1
  split at h <;> try (cases h; done)
  rename_i h2
  split at h <;> try (cases h; done)
  rename_i h3
  cases h
  refine ⟨h1, h2, fun c hc => ?_⟩
  obtain ⟨m', g1, g2, g3⟩ := spare_ok hs.drew hv pl es (c - k) e hpl hpx (z' := repZ z (c - k)) (by rw [repZ_length, hz])
  have hr := VR.sl (n := k) (k := far + k) (o := 0) g2
  rw [cap_far] at hr
  have e1 : k + (c - k) = c := by omega
  rw [e1] at hr
  exact hk m' _ _ g1 hr g3

noncomputable def xAppend (P : Program) (st : St) (t u : TypeId) (s x : Value) : Option (Value × St) :=
  match P.underlying t with
  | some (.slice e) => match P.info? e, zc P e, s with
    | some i, some z, .slice base n cap => if srcK P u = true then if z.toList.length = i.size then
      match xSrc st i.size (lenV x) x with
      | some news => if news.length = lenV x * i.size then match base with
        | none => if n = 0 then if cap = 0 then if lenV x = 0 then some (.slice none 0 0, st) else xLong st ⟨true, some e, true, false⟩ i.size (lenV x) i.bytes news else none else none
        | some ⟨b, o, none⟩ => if n + lenV x + far ≤ cap then match writeC st b (o + n * i.size) news with
              | some st' => some (.slice (some ⟨b, o, none⟩) (n + lenV x) cap, st')
              | none => none
          else if cap < far then
            if n + lenV x ≤ cap then match writeC st b (o + n * i.size) news with
              | some st' => some (.slice (some ⟨b, o, none⟩) (n + lenV x) cap, st')
              | none => none
            else match readC st b o (n * i.size) with
              | some olds => xLong st ⟨true, some e, true, false⟩ i.size (n + lenV x) i.bytes (olds ++ news)
              | none => none
          else match st.heap.get b with
            | some (.cells pl es cs) => if es = i.size then if o + n * i.size ≤ cs.length then if o + (cap - far) * i.size ≤ cs.length then if news.all (fun v => v.oneCell') = true then
                xLong (st.put b .dead) ⟨pl.plain, if pl.ty = some e then some e else none, pl.z && Nat.beq o 0, false⟩ i.size (n + lenV x) i.bytes ((cs.drop o).take (n * i.size) ++ news)
              else none else none else none else none
            | _ => none
        | _ => none
        else none
      | none => none
      else none else none
    | _, _, _ => none
  | _ => none

theorem xAppend_ok {P : Program} {m : Ren} {st st' : St} {w : World} (hs : Sim m st w) {t u : TypeId} {s x s' x' v : Value} {K : Value → World → Prop} (hsl : VR m s s') (hx : VR m x x')
    (h : xAppend P st t u s x = some (v, st')) (hk : Out m st' v K) : vAppend P t u s' x' w K := by
  unfold xAppend at h
  unfold vAppend
  split at h <;> try (cases h; done)
  rename_i e he
  split at h <;> try (cases h; done)
  rename_i i z base n cap hi hz
  split at h <;> try (cases h; done)
  rename_i hu
  split at h <;> try (cases h; done)
  rename_i hzs
  split at h <;> try (cases h; done)
  rename_i news hnews
  split at h <;> try (cases h; done)
  rename_i hnl
  have hlx := hx.len
  cases hsl with
  | edge ha => simp at h
  | snil =>
    simp only at h
    simp only [he, hi, hz, hu, ← hlx]
    refine ⟨by simpa using hzs, xSrc_ok hs hx hnews fun news' hv => ⟨fun hle => ?_, fun hlt => ?_⟩⟩
    · have e0 : lenV x = 0 := by omega
      simp only [e0, if_true, Option.some.injEq, Prod.mk.injEq] at h
      obtain ⟨rfl, rfl⟩ := h
      rw [e0]
      exact hk m _ _ (Ren.le.refl m) .snil hs
    · have e0 : ¬ lenV x = 0 := by omega
      simp only [e0, if_true, if_false] at h
      obtain ⟨h1, h2, h3⟩ := xLong_ok hs hv (z := z.toList) hzs e (fun t e => Option.some.inj e) rfl h hk
      rw [Nat.zero_add]
      exact ⟨h1, h2, rfl, fun c hc => by simpa using h3 c hc⟩
  | sl ha =>
    rename_i b o a
    simp only at h
    simp only [he, hi, hz, hu, ← hlx]
    refine ⟨by simpa using hzs, xSrc_ok hs hx hnews fun news' hv => ?_⟩
    split at h
    · rename_i hq
      have hcf : ¬ cap < far := by omega
      rw [cap_ge a hcf]
      split at h <;> try (cases h; done)
      rename_i st1 hw
      cases h
      refine ⟨fun _ => ?_, fun hlt => by omega⟩
      unfold stMaybe
      simp only
      rw [add_off, Nat.add_assoc]
      refine write_ok hs ha hv hw fun w' hs' => ?_
      have hr := VR.sl (n := n + lenV x) (k := cap) (o := o) ha
      rw [cap_ge a hcf] at hr
      exact hk m _ _ (Ren.le.refl m) hr hs'
    rename_i hq
    split at h
    · rename_i hcf
      rw [cap_near a hcf]
      split at h
      · rename_i hle
        split at h <;> try (cases h; done)
        rename_i st1 hw
        cases h
        refine ⟨fun _ => ?_, fun hlt => by omega⟩
        unfold stMaybe
        simp only
        rw [add_off, Nat.add_assoc]
        refine write_ok hs ha hv hw fun w' hs' => ?_
        have hr := VR.sl (n := n + lenV x) (k := cap) (o := o) ha
        rw [cap_near a hcf] at hr
        exact hk m _ _ (Ren.le.refl m) hr hs'
      · rename_i hle
        split at h <;> try (cases h; done)
        rename_i olds ho
        refine ⟨fun hle2 => absurd hle2 hle, fun _ => ?_⟩
        obtain ⟨l', g1, g2, g3⟩ := read_ok hs ha ho
        obtain ⟨h1, h2, h3⟩ := xLong_ok hs (g1.append hv) (z := z.toList) hzs e (fun t e => Option.some.inj e) rfl h hk
        exact ⟨h1, h2, l', g2, g3, h3⟩
    · rename_i hcf
      rw [cap_ge a hcf]
      split at h <;> try (cases h; done)
      rename_i pl es cs hb
      split at h <;> try (cases h; done)
      rename_i hes
      split at h <;> try (cases h; done)
      rename_i ho1
      split at h <;> try (cases h; done)
      rename_i ho2
      split at h <;> try (cases h; done)
      rename_i hone
      subst hes
      have hrd : readC st b o (n * i.size) = some ((cs.drop o).take (n * i.size)) := by
        unfold readC
        rw [hb]
        simp only
        rw [if_pos ho1]
      obtain ⟨l', g1, g2, g3⟩ := read_ok hs ha hrd
      refine ⟨fun hle => ?_, fun _ => ?_⟩
      · -- in place
        obtain ⟨c, T, fr, hc, hg, hsz, hf, hp⟩ := hs.cells hb ha
        have hcs : c.toList.length = c.size := by simp
        have hnl' : news'.length = lenV x * i.size := by rw [← hv.length]; exact hnl
        have hmul : (n + lenV x) * i.size ≤ (cap - far) * i.size + a.extra * i.size := by
          rw [← Nat.add_mul]; exact Nat.mul_le_mul_right _ hle
        rw [Nat.add_mul] at hmul
        have hle' : a.off + o + n * i.size + news'.length ≤ c.size := by omega
        have hspl : (spl c.toList (a.off + o + n * i.size) news').length = c.size := by rw [spl_length (by rw [hcs]; exact hle'), hcs]
        unfold xLong at h
        split at h <;> try (cases h; done)
        split at h <;> try (cases h; done)
        split at h <;> try (cases h; done)
        rename_i hvl
        cases h
        unfold stMaybe
        simp only
        rw [add_off]
        unfold stN
        simp only [hc]
        refine ⟨trivial, hle', ?_, hv.one (fun y hy => List.all_eq_true.1 hone y hy), ?_⟩
        · rcases hf with hf | hf
          · exact .inl hf
          · exact .inr (.inl (by omega))
        · have hext : (cap - far + a.extra - (n + lenV x)) * i.size + (n * i.size + lenV x * i.size) = (cap - far) * i.size + a.extra * i.size := by
            have hq : cap - far + a.extra - (n + lenV x) + (n + lenV x) = cap - far + a.extra := by omega
            rw [← Nat.add_mul, ← Nat.add_mul, ← Nat.add_mul, hq]
          have hle0 := Ren.add_le (a := ⟨a.blk, a.off + o, cap - far + a.extra - (n + lenV x)⟩) (hs.fresh st.next (Nat.le_refl _)).1
          obtain ⟨q1, q2⟩ := hs.move (off := a.off + o) (extra := cap - far + a.extra - (n + lenV x)) (k' := .cells ⟨pl.plain, if pl.ty = some e then some e else none, pl.z && Nat.beq o 0, false⟩ i.size ((cs.drop o).take (n * i.size) ++ news)) (o' := .cells (spl c.toList (a.off + o + n * i.size) news').toArray T fr) hb (by intro e; cases e) ha (by
            unfold ObjR
            refine ⟨fun j y hj => ?_, ?_, ?_, ⟨hp.p, fun t ht => ?_, fun hz => ?_, fun hx => (by cases hx)⟩⟩
            · rw [List.getElem?_toArray, spl_get (by rw [hcs]; exact hle')]
              have hl1 : ((cs.drop o).take (n * i.size)).length = n * i.size := by rw [List.length_take, List.length_drop]; omega
              rw [List.getElem?_append, hl1] at hj
              by_cases e1 : j < n * i.size
              · rw [if_pos e1, List.getElem?_take_of_lt e1, List.getElem?_drop] at hj
                rw [if_pos (by show a.off + o + j < _; omega), Array.getElem?_toList]
                obtain ⟨y', g, hr⟩ := hg (o + j) y hj
                exact ⟨y', by rw [← g]; congr 1; show a.off + o + j = _; omega, hr.up hle0⟩
              · rw [if_neg e1] at hj
                have hlt := (List.getElem?_eq_some_iff.1 hj).1
                rw [if_neg (by show ¬ (a.off + o + j < _); omega), if_pos (by show a.off + o + j < _; rw [← hv.length]; omega)]
                obtain ⟨y', g, hr⟩ := hv.get _ hj
                exact ⟨y', by rw [← g]; congr 1; show a.off + o + j - _ = _; omega, hr.up hle0⟩
            · simp only [List.size_toArray, hspl, hvl]
              show a.off + o + (n + lenV x) * i.size + (cap - far + a.extra - (n + lenV x)) * i.size ≤ c.size
              rw [Nat.add_mul n]
              omega
            · simp only [List.size_toArray, hspl]
              exact hf
            · have ht' : (if pl.ty = some e then some e else none) = some t := ht
              split at ht'
              · rename_i h9
                rw [hp.t e h9]
                exact Option.some.inj ht'
              · cases ht'
            · obtain ⟨z1, z2⟩ := Bool.and_eq_true_iff.1 hz
              show a.off + o = 0
              rw [hp.z z1, Nat.eq_of_beq_eq_true z2])
          have hr := VR.sl (m := m.add st.next ⟨a.blk, a.off + o, cap - far + a.extra - (n + lenV x)⟩) (n := n + lenV x) (k := far + (n + lenV x)) (o := 0) (b := st.next) (a := ⟨a.blk, a.off + o, cap - far + a.extra - (n + lenV x)⟩) (Ren.add_same _ _ _)
          rw [cap_far] at hr
          have e1 : n + lenV x + (cap - far + a.extra - (n + lenV x)) = cap - far + a.extra := by omega
          simp only [e1, Nat.add_zero] at hr
          exact hk _ _ _ q1 hr q2
      · obtain ⟨h1, h2, h3⟩ := xLong_ok (hs.kill hb) (g1.append hv) (z := z.toList) hzs e (fun t ht => by
          have ht' : (if pl.ty = some e then some e else none) = some t := ht
          split at ht'
          · exact Option.some.inj ht'
          · cases ht') rfl h hk
        exact ⟨h1, h2, l', g2, g3, h3⟩

end Go.X

/-
  THE EXECUTOR, part 6: slices of slices, copy, maps whose keys are integers, pointers compared. Own work; generic in the program.
-/
set_option linter.unusedVariables false
set_option maxRecDepth 20000
namespace Go.X
open Go Go.V Go.RowKit

def xBnd (v : Option Value) (dflt y : Nat) : Option Nat :=
  match v with
  | none => some dflt
  | some (.int _ i) => if 0 ≤ i then if i ≤ (y : Int) then some i.toNat else none else none
  | _ => none

inductive VRo (m : Ren) : Option Value → Option Value → Prop
  | none : VRo m none none
  | some {x y : Value} (h : VR m x y) : VRo m (some x) (some y)

theorem xBnd_ok {m : Ren} {v v' : Option Value} {dflt y y' r : Nat} {K : Nat → Prop} (hv : VRo m v v') (hy : y ≤ y') (h : xBnd v dflt y = some r) (hk : (v = none → r = dflt) → (v ≠ none → r ≤ y) → K r) : bnd v' dflt y' K := by
  unfold xBnd at h
  unfold bnd
  cases hv with
  | none =>
    cases h
    exact hk (fun _ => rfl) (fun e => absurd rfl e)
  | some hv =>
    cases hv <;> simp only at h ⊢ <;> try (cases h; done)
    split at h <;> try (cases h; done)
    rename_i h0
    split at h <;> try (cases h; done)
    rename_i h1
    cases h
    exact ⟨h0, by omega, hk (fun e => by cases e) (fun _ => by omega)⟩

/-- the part of a capacity that is known -/
def capK (k : Nat) : Nat := bif Nat.blt k far then k else k - far
/-- a capacity less l -/
def capLess (k l : Nat) : Nat := bif Nat.blt k far then k - l else far + (k - far - l)

def xSlice (t : TK) (x : Value) (lo hi : Option Value) : Option Value :=
  match t, x with
  | .string, .string s => match xBnd hi s.data.toList.length s.data.toList.length with
    | some h => match xBnd lo 0 h with
      | some l => some (.string ⟨⟨(s.data.toList.drop l).take (h - l)⟩⟩)
      | none => none
    | none => none
  | .slice es, .slice none 0 0 => match xBnd hi 0 0 with
    | some h => match xBnd lo 0 h with
      | some l => some (.slice none 0 0)
      | none => none
    | none => none
  | .slice es, .slice (some ⟨b, o, none⟩) len cap => if len ≤ capK cap then match xBnd hi len (capK cap) with
    | some h => match xBnd lo 0 h with
      | some l => if l = 0 then some (.slice (some ⟨b, o, none⟩) h cap)
        else if l < capK cap then some (.slice (some ⟨b, o + l * es, none⟩) (h - l) (capLess cap l))
        else if cap < far then some (.slice (some ⟨b, o, none⟩) (h - l) (cap - l)) else some (.slice (some ⟨b, o, some (l * es)⟩) 0 (capLess cap l))
      | none => none
    | none => none else none
  | .arr n es, .pointer (some ⟨b, o, none⟩) => if n < far then match xBnd hi n n with
    | some h => match xBnd lo 0 h with
      | some l => if n = l then some (.slice (some ⟨b, o, none⟩) (h - l) (n - l)) else some (.slice (some ⟨b, o + l * es, none⟩) (h - l) (n - l))
      | none => none
    | none => none else none
  | _, _ => none

theorem capK_le (a : At) (k : Nat) : capK k ≤ capOf a k := by
  unfold capK capOf
  cases Nat.blt k far
  · rw [cond_false, cond_false]; exact Nat.le_add_right _ _
  · rw [cond_true, cond_true]; exact Nat.le_refl _

theorem capLess_ok (a : At) {k l : Nat} (h : l ≤ capK k) : capOf a (capLess k l) = capOf a k - l := by
  unfold capLess
  unfold capK at h
  cases hb : Nat.blt k far with
  | true =>
    rw [Nat.blt_eq] at hb
    rw [cond_true, cap_near a hb, cap_near a (Nat.lt_of_le_of_lt (Nat.sub_le _ _) hb)]
  | false =>
    have hb' : ¬ k < far := by intro e; rw [← Nat.blt_eq, hb] at e; cases e
    rw [hb, cond_false] at h
    rw [cond_false, cap_far, cap_ge a hb']
    generalize far = f at *
    omega

theorem addr0 (b o : Nat) : (⟨b, o, none⟩ : Addr).add 0 = ⟨b, o, none⟩ := by rw [add_off, Nat.add_zero]

theorem xSlice_ok {m : Ren} {t : TK} {x x' v : Value} {lo hi lo' hi' : Option Value} {K : Value → Prop} (hx : VR m x x') (hlo : VRo m lo lo') (hhi : VRo m hi hi') (h : xSlice t x lo hi = some v) (hk : ∀ v', VR m v v' → K v') : vSlice t x' lo' hi' K := by
  unfold xSlice at h
  unfold vSlice
  cases hx with
  | str s =>
    cases t <;> simp only at h ⊢ <;> try (cases h; done)
    split at h <;> try (cases h; done)
    rename_i hh e1
    split at h <;> try (cases h; done)
    rename_i l e2
    cases h
    have hs : s.data.toList.length = s.size := by rw [Array.length_toList]; rfl
    rw [hs] at e1
    refine xBnd_ok hhi (Nat.le_refl _) e1 fun _ _ => xBnd_ok hlo (Nat.le_refl _) e2 fun _ _ => ?_
    have := bex s.data.toList l hh
    have e3 : (⟨s.data.toList.toArray⟩ : ByteArray) = s := by cases s; simp
    rw [e3] at this
    rw [this]
    exact hk _ (.str _)
  | snil =>
    cases t <;> simp only at h ⊢ <;> try (cases h; done)
    split at h <;> try (cases h; done)
    rename_i hh e1
    split at h <;> try (cases h; done)
    rename_i l e2
    cases h
    refine xBnd_ok hhi (Nat.le_refl _) e1 fun g1 g2 => xBnd_ok hlo (Nat.le_refl _) e2 fun g3 g4 => ?_
    have hh0 : hh = 0 := by
      by_cases e : hi = none
      · exact g1 e
      · have := g2 e; omega
    have hl0 : l = 0 := by
      by_cases e : lo = none
      · exact g3 e
      · have := g4 e; omega
    subst hh0
    subst hl0
    exact hk _ .snil
  | sl ha =>
    rename_i b o n k a
    cases t <;> simp only at h ⊢ <;> try (cases h; done)
    rename_i es
    split at h <;> try (cases h; done)
    rename_i hn
    split at h <;> try (cases h; done)
    rename_i hh e1
    split at h <;> try (cases h; done)
    rename_i l e2
    have hck := capK_le a k
    refine xBnd_ok hhi hck e1 fun g1 g2 => xBnd_ok hlo (Nat.le_refl _) e2 fun g3 g4 => ?_
    have hhk : hh ≤ capK k := by
      by_cases e : hi = none
      · rw [g1 e]; exact hn
      · exact g2 e
    have hlh : l ≤ hh := by
      by_cases e : lo = none
      · rw [g3 e]; exact Nat.zero_le _
      · exact g4 e
    split at h
    · rename_i e0
      cases h
      subst e0
      simp only [Nat.zero_mul, Option.map_some, addr0, if_true, Nat.sub_zero, ite_self]
      exact hk _ (.sl ha)
    · rename_i e0
      split at h
      · rename_i e3
        cases h
        rw [if_neg (by omega)]
        simp only [Option.map_some, add_off]
        rw [Nat.add_assoc, ← capLess_ok a (by omega)]
        exact hk _ (.sl ha)
      · rename_i e3
        split at h
        rotate_left
        · cases h
          have e5 : hh - l = 0 := by omega
          have hr := VR.edge (o := o) (d := l * es) (k := capLess k l) ha
          rw [capLess_ok a (by omega)] at hr
          rw [e5]
          by_cases e6 : capOf a k = l
          · rw [if_pos e6]
            rw [if_pos (by omega), Nat.add_zero] at hr
            exact hk _ hr
          · rw [if_neg e6]
            rw [if_neg (by omega)] at hr
            simp only [Option.map_some, add_off]
            exact hk _ hr
        rename_i e4
        cases h
        have hk0 : capK k = k := by
          unfold capK
          have : Nat.blt k far = true := by rw [Nat.blt_eq]; exact e4
          rw [this]; rfl
        rw [hk0] at hhk e3
        rw [cap_near a e4, if_pos (by omega)]
        have hr := VR.sl (n := hh - l) (k := k - l) (o := o) ha
        rw [cap_near a (by omega)] at hr
        exact hk _ hr
  | ptr ha =>
    rename_i b o a
    cases t <;> simp only at h ⊢ <;> try (cases h; done)
    rename_i n es
    split at h <;> try (cases h; done)
    rename_i hn
    split at h <;> try (cases h; done)
    rename_i hh e1
    split at h <;> try (cases h; done)
    rename_i l e2
    refine xBnd_ok hhi (Nat.le_refl _) e1 fun g1 g2 => xBnd_ok hlo (Nat.le_refl _) e2 fun g3 g4 => ?_
    split at h
    · rename_i e3
      cases h
      rw [if_pos e3]
      have hr := VR.sl (n := hh - l) (k := n - l) (o := o) ha
      rw [cap_near a (by omega)] at hr
      exact hk _ hr
    · rename_i e3
      cases h
      rw [if_neg e3, add_off, Nat.add_assoc]
      have hr := VR.sl (n := hh - l) (k := n - l) (o := o + l * es) ha
      rw [cap_near a (by omega)] at hr
      exact hk _ hr
  | _ => cases t <;> simp only at h <;> cases h

/-! ### copy -/

noncomputable def xCopy (P : Program) (st : St) (t : TypeId) (d x : Value) : Option (Value × St) :=
  match P.underlying t with
  | some (.slice e) => match P.info? e, d with
    | some i, .slice base n _ => match xSrc st i.size (min (lenV x) n) x with
      | some cs => match base with
        | none => some (.int .i64 (min (lenV x) n : Nat), st)
        | some ⟨b, o, none⟩ => match writeC st b o cs with
          | some st' => some (.int .i64 (min (lenV x) n : Nat), st')
          | none => none
        | _ => none
      | none => none
    | _, _ => none
  | _ => none

theorem xCopy_ok {P : Program} {m : Ren} {st st' : St} {w : World} (hs : Sim m st w) {t : TypeId} {d x d' x' v : Value} {K : Value → World → Prop} (hd : VR m d d') (hx : VR m x x')
    (h : xCopy P st t d x = some (v, st')) (hk : Out m st' v K) : vCopy P t d' x' w K := by
  unfold xCopy at h
  unfold vCopy
  split at h <;> try (cases h; done)
  rename_i e he
  split at h <;> try (cases h; done)
  rename_i i base n cap hi
  split at h <;> try (cases h; done)
  rename_i cs hsrc
  have hlx := hx.len
  cases hd with
  | edge ha => simp at h
  | snil =>
    cases h
    simp only [he, hi, ← hlx]
    refine xSrc_ok hs hx hsrc fun l' hl => ?_
    exact hk m _ _ (Ren.le.refl m) (.int _ _) hs
  | sl ha =>
    simp only at h
    split at h <;> try (cases h; done)
    rename_i st1 hw
    cases h
    simp only [he, hi, ← hlx]
    refine xSrc_ok hs hx hsrc fun l' hl => ?_
    unfold stMaybe
    simp only [addr0]
    exact write_ok hs ha hl hw fun w' hs' => hk m _ _ (Ren.le.refl m) (.int _ _) hs'

end Go.X

/-
  THE EXECUTOR, part 7: maps whose keys are integers; bytes and texts; pointers compared. Own work; generic in the program.
-/
set_option linter.unusedVariables false
set_option maxRecDepth 20000
namespace Go.X
open Go Go.V Go.RowKit

theorem KRs.get_none {m : Ren} {n : Int} : ∀ {r s : List (Int × Value)}, KRs m r s → getI n r = none → getI n s = none
  | _, _, .nil, _ => rfl
  | _, _, .cons hx hs, h => by
    unfold getI at h ⊢
    split at h
    · cases h
    · rename_i e; rw [if_neg e]; exact KRs.get_none hs h

theorem KRs.get_some {m : Ren} {n : Int} {v : Value} : ∀ {r s : List (Int × Value)}, KRs m r s → getI n r = some v → ∃ v', getI n s = some v' ∧ VR m v v'
  | _, _, .nil, h => by cases h
  | _, _, .cons hx hs, h => by
    unfold getI at h ⊢
    split at h
    · rename_i e
      cases h
      rw [if_pos e]
      exact ⟨_, rfl, hx⟩
    · rename_i e
      rw [if_neg e]
      exact KRs.get_some hs h

theorem KRs.set {m : Ren} {n : Int} {v v' : Value} (hv : VR m v v') : ∀ {r s : List (Int × Value)}, KRs m r s → KRs m (setI n v r) (setI n v' s)
  | _, _, .nil => .cons hv .nil
  | _, _, .cons hx hs => by
    unfold setI
    split
    · exact .cons hv hs
    · exact .cons hx (KRs.set hv hs)

theorem KRs.del {m : Ren} {n : Int} : ∀ {r s : List (Int × Value)}, KRs m r s → KRs m (delI n r) (delI n s)
  | _, _, .nil => .nil
  | _, _, .cons hx hs => by
    unfold delI
    split
    · exact hs
    · exact .cons hx (KRs.del hs)

theorem keys_perm {r s : List (Int × Value)} (h : r.Perm s) (hn : (s.map (·.1)).Nodup) : (r.map (·.1)).Nodup := (h.map (·.1)).nodup_iff.2 hn

theorem getI_mem {n : Int} {v : Value} : ∀ {r : List (Int × Value)}, (r.map (·.1)).Nodup → (getI n r = some v ↔ (n, v) ∈ r)
  | [], _ => by simp [getI]
  | (k, u) :: r, h => by
    simp only [List.map_cons, List.nodup_cons] at h
    have ih := getI_mem (n := n) (v := v) h.2
    unfold getI
    by_cases e : n = k
    · subst e
      rw [if_pos rfl]
      constructor
      · intro h1; cases h1; exact List.mem_cons_self
      · intro h1
        rcases List.mem_cons.1 h1 with h1 | h1
        · cases h1; rfl
        · exact absurd (List.mem_map_of_mem (f := (·.1)) h1) h.1
    · rw [if_neg e, ih]
      constructor
      · exact List.mem_cons_of_mem _
      · intro h1
        rcases List.mem_cons.1 h1 with h1 | h1
        · cases h1; exact absurd rfl e
        · exact h1

theorem getI_perm {n : Int} {r s : List (Int × Value)} (h : r.Perm s) (hn : (s.map (·.1)).Nodup) : getI n r = getI n s := by
  have hr := keys_perm h hn
  cases hg : getI n s with
  | some v => exact (getI_mem hr).2 (h.mem_iff.2 ((getI_mem hn).1 hg))
  | none =>
    cases hg' : getI n r with
    | none => rfl
    | some v =>
      have := (getI_mem hn).2 (h.mem_iff.1 ((getI_mem hr).1 hg'))
      rw [hg] at this
      cases this

theorem setI_perm {n : Int} {x : Value} {r s : List (Int × Value)} (h : r.Perm s) : (s.map (·.1)).Nodup → (setI n x r).Perm (setI n x s) := by
  induction h with
  | nil => intro _; exact List.Perm.refl _
  | @cons p l1 l2 h ih =>
    intro hn
    simp only [List.map_cons, List.nodup_cons] at hn
    obtain ⟨k, v⟩ := p
    unfold setI
    split
    · exact h.cons _
    · exact (ih hn.2).cons _
  | swap p q l =>
    intro hn
    obtain ⟨k, v⟩ := p
    obtain ⟨k', v'⟩ := q
    simp only [List.map_cons, List.nodup_cons, List.mem_cons, not_or] at hn
    simp only [setI]
    by_cases e : n = k
    · subst e
      rw [if_pos rfl]
      have hne : ¬ (n = k') := hn.1.1
      rw [if_neg hne, if_pos rfl]
      exact List.Perm.swap _ _ _
    · rw [if_neg e]
      by_cases e2 : n = k'
      · rw [if_pos e2, if_neg e, if_pos e2]
        exact List.Perm.swap _ _ _
      · rw [if_neg e2, if_neg e, if_neg e2]
        exact List.Perm.swap _ _ _
  | trans h1 h2 ih1 ih2 =>
    intro hn
    exact (ih1 (keys_perm h2 hn)).trans (ih2 hn)

theorem delI_perm {n : Int} {r s : List (Int × Value)} (h : r.Perm s) : (s.map (·.1)).Nodup → (delI n r).Perm (delI n s) := by
  induction h with
  | nil => intro _; exact List.Perm.refl _
  | @cons p l1 l2 h ih =>
    intro hn
    simp only [List.map_cons, List.nodup_cons] at hn
    obtain ⟨k, v⟩ := p
    unfold delI
    split
    · exact h
    · exact (ih hn.2).cons _
  | swap p q l =>
    intro hn
    obtain ⟨k, v⟩ := p
    obtain ⟨k', v'⟩ := q
    simp only [List.map_cons, List.nodup_cons, List.mem_cons, not_or] at hn
    simp only [delI]
    by_cases e : n = k
    · subst e
      rw [if_pos rfl]
      have hne : ¬ (n = k') := hn.1.1
      rw [if_neg hne, if_pos rfl]
    · rw [if_neg e]
      by_cases e2 : n = k'
      · rw [if_pos e2, if_neg e, if_pos e2]
      · rw [if_neg e2, if_neg e, if_neg e2]
        exact List.Perm.swap _ _ _
  | trans h1 h2 ih1 ih2 =>
    intro hn
    exact (ih1 (keys_perm h2 hn)).trans (ih2 hn)

theorem KRs.length {m : Ren} : ∀ {r s : List (Int × Value)}, KRs m r s → r.length = s.length
  | _, _, .nil => rfl
  | _, _, .cons hx hs => by simp [KRs.length hs]

def closedZ (v : Value) : Bool :=
  match v with
  | .agg cs => cs.toList.all closedV
  | v => closedV v

theorem closedZ_ok {v : Value} (h : closedZ v = true) : plainR v := by
  unfold closedZ at h
  split at h
  · rename_i cs
    intro m
    obtain ⟨l⟩ := cs
    exact .agg (closed_all h)
  · exact closedV_ok h

def intKey (P : Program) (kt : TypeId) (kd : IntKind) : Bool :=
  match P.underlying kt with
  | some (.int k) => decide (k = kd)
  | _ => false

theorem intKey_ok {P : Program} {kt : TypeId} {kd : IntKind} (h : intKey P kt kd = true) : P.underlying kt = some (.int kd) := by
  unfold intKey at h
  split at h
  · rename_i k e
    rw [e, of_decide_eq_true h]
  · cases h

noncomputable def mapOf (st : St) (b : Nat) (kd : IntKind) : Option (List (Int × Value)) :=
  match st.heap.get b with
  | some (.mapI k ks _ _) => if k = kd then some ks else none
  | _ => none

noncomputable def clkOf (st : St) (b : Nat) : Nat :=
  match st.heap.get b with
  | some (.mapI _ _ cl _) => cl
  | _ => 0

theorem mapOf_ok {m : Ren} {st : St} {w : World} (hs : Sim m st w) {b : Nat} {a : At} {kd : IntKind} {ks : List (Int × Value)} (ha : m b = some a) (h : mapOf st b kd = some ks) :
    ∃ cl last, st.heap.get b = some (.mapI kd ks cl last) ∧ ∃ es ks' kp, w.heap[a.blk]? = some (.map es cl) ∧ MapI kd es cl ks' ∧ kp.Perm ks' ∧ KRs m ks kp := by
  unfold mapOf at h
  split at h <;> try (cases h; done)
  rename_i k ks0 cl last hb
  split at h <;> try (cases h; done)
  rename_i e
  cases h
  subst e
  refine ⟨cl, last, hb, ?_⟩
  obtain ⟨a', o, h1, h2, h3⟩ := hs.obj b _ hb (by intro e; cases e)
  rw [ha] at h1
  cases h1
  unfold ObjR at h3
  split at h3
  · rename_i e; cases e
  · rename_i es c kd' ks' cl' last' e
    cases e
    obtain ⟨⟨ks2, kp, g1, g2, g3⟩, rfl, _⟩ := h3
    exact ⟨es, ks2, kp, h2, g1, g2, g3⟩
  · rename_i e; cases e
  · rename_i e; cases e
  · rename_i e; cases e
  · rename_i e; cases e
  · rename_i e; cases e
  · rename_i e; cases e
  · exact h3.elim

noncomputable def xLook (P : Program) (st : St) (t : TypeId) (x k : Value) (ok : Bool) : Option Value :=
  match P.underlying t, x, k with
  | some (.map kt et), .map (some b), .int kd n => if intKey P kt kd = true then match mapOf st b kd with
    | some ks => match getI n ks with
      | some v => some (if ok then .tuple #[v, .bool true] else v)
      | none => match (P.info? et).bind (·.zero) with
        | some z => if closedZ z = true then some (if ok then .tuple #[z, .bool false] else z) else none
        | none => none
    | none => none else none
  | _, _, _ => none

theorem xLook_ok {P : Program} {m : Ren} {st : St} {w : World} (hs : Sim m st w) {t : TypeId} {x k x' k' v : Value} {ok : Bool} {K : Value → Prop} (hx : VR m x x') (hkk : VR m k k')
    (h : xLook P st t x k ok = some v) (hk : ∀ v', VR m v v' → K v') : vLookup P t x' k' ok w K := by
  unfold xLook at h
  split at h <;> try (cases h; done)
  rename_i kt et b kd n ht
  cases hkk
  cases hx
  rename_i a ha
  split at h <;> try (cases h; done)
  rename_i hkey
  split at h <;> try (cases h; done)
  rename_i ks hm
  obtain ⟨cl, last, hb, es, ks', kp, h1, h2, hp, h3⟩ := mapOf_ok hs ha hm
  unfold vLookup
  simp only [ht]
  refine ⟨intKey_ok hkey, ?_⟩
  simp only [h1]
  refine ⟨ks', h2, ?_⟩
  split at h
  · rename_i u hu
    cases h
    obtain ⟨u', g1, g2⟩ := h3.get_some hu
    rw [getI_perm hp h2.keys] at g1
    simp only [g1]
    cases ok
    · exact hk _ g2
    · exact hk _ (.tup (.cons g2 (.cons (.bool _) .nil)))
  · rename_i hu
    have g1 := h3.get_none hu
    rw [getI_perm hp h2.keys] at g1
    simp only [g1]
    unfold zeroK
    split at h <;> try (cases h; done)
    rename_i z hz
    split at h <;> try (cases h; done)
    rename_i hc
    cases h
    simp only [hz]
    cases ok
    · exact hk _ (closedZ_ok hc m)
    · exact hk _ (.tup (.cons (closedZ_ok hc m) (.cons (.bool _) .nil)))

noncomputable def xUpd (P : Program) (st : St) (t : TypeId) (x k v : Value) : Option St :=
  match P.underlying t, x, k with
  | some (.map kt _), .map (some b), .int kd n => if intKey P kt kd = true then match mapOf st b kd with
    | some ks => some (st.put b (.mapI kd (setI n v ks) (if (getI n ks).isSome then clkOf st b else clkOf st b + 1) none))
    | none => none else none
  | _, _, _ => none

theorem xUpd_ok {P : Program} {m : Ren} {st st' : St} {w : World} (hs : Sim m st w) {t : TypeId} {x k v x' k' v' : Value} {K : World → Prop} (hx : VR m x x') (hkk : VR m k k') (hv : VR m v v')
    (h : xUpd P st t x k v = some st') (hk : ∀ w', Sim m st' w' → K w') : vMapUpd P t x' k' v' w K := by
  unfold xUpd at h
  split at h <;> try (cases h; done)
  rename_i kt et b kd n ht
  cases hkk
  cases hx
  rename_i a ha
  split at h <;> try (cases h; done)
  rename_i hkey
  split at h <;> try (cases h; done)
  rename_i ks hm
  cases h
  obtain ⟨cl, last, hb, es, ks', kp, h1, h2, hp, h3⟩ := mapOf_ok hs ha hm
  unfold vMapUpd
  simp only [ht]
  refine ⟨intKey_ok hkey, ?_⟩
  simp only [h1]
  refine ⟨ks', h2, fun es' c' hcl hm' => hk _ (hs.put hb (by intro e; cases e) ha ?_)⟩
  refine ⟨⟨_, _, hm', setI_perm hp h2.keys, h3.set hv⟩, ?_, fun key bn e => by cases e⟩
  have e1 : clkOf st b = cl := by unfold clkOf; rw [hb]
  have e2 : (getI n ks).isSome = (getI n ks').isSome := by
    rw [← getI_perm hp h2.keys]
    cases hg : getI n ks with
    | none => rw [h3.get_none hg]
    | some u => obtain ⟨u', g1, _⟩ := h3.get_some hg; rw [g1]; rfl
  rw [hcl, e1, e2]

noncomputable def xDel (P : Program) (st : St) (t : TypeId) (x k : Value) : Option St :=
  match P.underlying t, x, k with
  | some (.map kt _), .map (some b), .int kd n => if intKey P kt kd = true then match mapOf st b kd with
    | some ks => some (st.put b (.mapI kd (delI n ks) (clkOf st b) none))
    | none => none else none
  | _, _, _ => none

theorem xDel_ok {P : Program} {m : Ren} {st st' : St} {w : World} (hs : Sim m st w) {t : TypeId} {x k x' k' : Value} {K : Value → World → Prop} (hx : VR m x x') (hkk : VR m k k')
    (h : xDel P st t x k = some st') (hk : Out m st' (.tuple #[]) K) : vDel P t x' k' w K := by
  unfold xDel at h
  split at h <;> try (cases h; done)
  rename_i kt et b kd n ht
  cases hkk
  cases hx
  rename_i a ha
  split at h <;> try (cases h; done)
  rename_i hkey
  split at h <;> try (cases h; done)
  rename_i ks hm
  cases h
  obtain ⟨cl, last, hb, es, ks', kp, h1, h2, hp, h3⟩ := mapOf_ok hs ha hm
  unfold vDel
  simp only [ht]
  refine ⟨intKey_ok hkey, ?_⟩
  simp only [h1]
  refine ⟨ks', h2, fun es' hm' => hk m _ _ (Ren.le.refl m) (.tup .nil) (hs.put hb (by intro e; cases e) ha ?_)⟩
  exact ⟨⟨_, _, hm', delI_perm hp h2.keys, h3.del⟩, by unfold clkOf; rw [hb], fun key bn e => by cases e⟩

noncomputable def xLenM (st : St) (x : Value) : Option Value :=
  match x with
  | .map none => some (.int .i64 0)
  | .map (some b) => match st.heap.get b with
    | some (.mapI kd ks _ _) => some (.int .i64 ks.length)
    | _ => none
  | _ => none

theorem xLenM_ok {m : Ren} {st : St} {w : World} (hs : Sim m st w) {x x' v : Value} {K : Value → World → Prop} (hx : VR m x x') (h : xLenM st x = some v) (hk : Out m st v K) : vLenM x' w K := by
  unfold xLenM at h
  unfold vLenM
  cases hx <;> simp only at h ⊢ <;> try (cases h; done)
  · cases h
    exact hk m _ _ (Ren.le.refl m) (.int _ _) hs
  · rename_i b a ha
    split at h <;> try (cases h; done)
    rename_i kd ks _ _ hb
    cases h
    obtain ⟨cl, last, _, es, ks', kp, h1, h2, hp, h3⟩ := mapOf_ok (kd := kd) (ks := ks) hs ha (by unfold mapOf; rw [hb]; simp)
    simp only [h1]
    rw [h2.size, ← hp.length_eq, ← h3.length]
    exact hk m _ _ (Ren.le.refl m) (.int _ _) hs

/-- a new map -/
noncomputable def xMap (st : St) (kd : IntKind) : Value × St := (.map (some st.next), st.new (.mapI kd [] 0 none))

theorem xMap_ok {m : Ren} {st : St} {w : World} (hs : Sim m st w) (kd : IntKind) {K : Value → World → Prop} (hk : Out m (xMap st kd).2 (xMap st kd).1 K) : K (.map (some w.heap.size)) (w.alloc (.map #[] 0)) := by
  obtain ⟨h1, h2⟩ := hs.new (o := .map #[] 0) (k := .mapI kd [] 0 none) (off := 0) (extra := 0) ⟨⟨[], [], MapI.nil kd, List.Perm.refl _, .nil⟩, rfl, fun key bn e => by cases e⟩
  have e : (m.add st.next ⟨w.heap.size, 0, 0⟩) st.next = some ⟨w.heap.size, 0, 0⟩ := Ren.add_same _ _ _
  exact hk _ _ _ h1 (VR.map e) h2

/-! ### Pointers compared -/

noncomputable def plainX (st : St) (b : Nat) : Bool :=
  match st.heap.get b with
  | some (.cells ⟨true, _, _, _⟩ _ _) => true
  | _ => false

theorem plainX_ok {m : Ren} {st : St} {w : World} (hs : Sim m st w) {b : Nat} {a : At} (ha : m b = some a) (h : plainX st b = true) : plainB w a.blk ∧ ∃ k, st.heap.get b = some k ∧ k ≠ .dead := by
  unfold plainX at h
  split at h
  · rename_i es cs hb
    obtain ⟨c, T, fr, hc, _, _, _, hp⟩ := hs.cells hb ha
    rw [hp.p rfl] at hc
    exact ⟨⟨c, T, hc⟩, _, hb, by intro e; cases e⟩
  · cases h

noncomputable def xPtr (st : St) (op : BinOp) (x y : Value) : Option Value :=
  match x, y with
  | .pointer (some ⟨b, o, none⟩), .pointer (some ⟨b', o', none⟩) => bif Nat.beq b b' then xEqB op (Nat.beq o o') else bif plainX st b && plainX st b' then xEqB op false else none
  | .pointer none, .pointer b => xEqB op b.isNone
  | .pointer (some _), .pointer none => xEqB op false
  | _, _ => none

theorem xPtr_ok {m : Ren} {st : St} {w : World} (hs : Sim m st w) {op : BinOp} {x y x' y' v : Value} {K : Value → Prop} (hx : VR m x x') (hy : VR m y y') (h : xPtr st op x y = some v) (hk : plainR v → K v) : vPtr op x' y' w K := by
  unfold xPtr at h
  unfold vPtr
  cases hx <;> cases hy <;> simp only at h ⊢ <;> first
    | (cases h; done)
    | exact xEqB_ok h hk
    | skip
  rename_i b o a ha b' o' a' ha'
  cases hb : Nat.beq b b' with
  | true =>
    rw [hb, cond_true] at h
    have e := Nat.eq_of_beq_eq_true hb
    subst e
    rw [ha] at ha'
    cases ha'
    refine ⟨fun _ => ?_, fun e => absurd rfl e⟩
    have : ((⟨a.blk, a.off + o, none⟩ : Addr) == ⟨a.blk, a.off + o', none⟩) = Nat.beq o o' := by
      cases ho : Nat.beq o o' with
      | true =>
        have e := Nat.eq_of_beq_eq_true ho
        subst e
        simp
      | false =>
        have : ¬ o = o' := fun e => by rw [e, Nat.beq_refl] at ho; cases ho
        rw [beq_eq_false_iff_ne]
        intro e
        injection e with e1 e2
        omega
    rw [this]
    exact xEqB_ok h hk
  | false =>
    rw [hb, cond_false] at h
    cases hp : (plainX st b && plainX st b') with
    | false => rw [hp, cond_false] at h; cases h
    | true =>
      rw [hp, cond_true] at h
      simp only [Bool.and_eq_true] at hp
      obtain ⟨p1, k1, g1, d1⟩ := plainX_ok hs ha hp.1
      obtain ⟨p2, k2, g2, d2⟩ := plainX_ok hs ha' hp.2
      refine ⟨fun e => ?_, fun _ => ⟨p1, p2, xEqB_ok h hk⟩⟩
      have := hs.inj b b' k1 k2 a a' g1 d1 g2 d2 ha ha' e
      rw [this, Nat.beq_refl] at hb
      cases hb

end Go.X

/-
  THE EXECUTOR, part 8: bytes and texts, structs, operands. Own work; generic in the program.
-/
set_option linter.unusedVariables false
set_option maxRecDepth 20000
namespace Go.X
open Go Go.V Go.RowKit

/-! ### Bytes and texts -/

noncomputable def xS2B (st : St) (x : Value) : Option (Value × St) :=
  match x with
  | .string s => some (.slice (some ⟨st.next, 0, none⟩) s.data.toList.length (far + s.data.toList.length), st.new (.cells ⟨false, none, true, false⟩ 1 (bytesV s.data.toList)))
  | _ => none

theorem xS2B_ok {m : Ren} {st st' : St} {w : World} (hs : Sim m st w) {e : TypeId} {x x' v : Value} {K : Value → World → Prop} (hx : VR m x x') (h : xS2B st x = some (v, st')) (hk : Out m st' v K) : vS2B e x' w K := by
  unfold xS2B at h
  unfold vS2B
  cases hx <;> simp only at h ⊢ <;> try (cases h; done)
  rename_i s
  cases h
  intro c hc
  have hsz : s.data.toList.length = s.size := by rw [Array.length_toList]; rfl
  have hbl : (bytesV s.data.toList).length = s.size := by unfold bytesV; rw [List.length_map, hsz]
  obtain ⟨h1, h2⟩ := hs.drew.new (o := .cells (bytesV s.data.toList ++ List.replicate (c - s.size) (Value.int .u8 0)).toArray e (c, c + 1)) (k := .cells ⟨false, none, true, false⟩ 1 (bytesV s.data.toList)) (off := 0) (extra := c - s.size) (by
    unfold ObjR
    refine ⟨fun i v hi => ?_, ?_, .inr ?_, ⟨fun e => (by cases e), fun t e => (by cases e), fun _ => rfl, fun e => (by cases e)⟩⟩
    · have hlt := (List.getElem?_eq_some_iff.1 hi).1
      refine ⟨v, by rw [List.getElem?_toArray, Nat.zero_add, List.getElem?_append_left hlt]; exact hi, ?_⟩
      unfold bytesV at hi
      rw [List.getElem?_map] at hi
      obtain ⟨b, _, rfl⟩ := Option.map_eq_some_iff.1 hi
      exact .int _ _
    · simp [hbl]
    · simp [hbl]; omega)
  have he : (m.add st.next ⟨w.heap.size, 0, c - s.size⟩) st.next = some ⟨w.heap.size, 0, c - s.size⟩ := Ren.add_same _ _ _
  have hr := VR.sl (n := s.data.toList.length) (k := far + s.data.toList.length) (o := 0) he
  rw [cap_far, hsz] at hr
  have e1 : s.size + (c - s.size) = c := by omega
  simp only [e1] at hr
  rw [← hsz] at hr
  have := hk _ _ _ h1 hr h2
  rw [hsz] at this
  exact this

/-- bytes among values -/
def bytesOf : List Value → Option (List UInt8)
  | [] => some []
  | v :: r => match v with
    | .int .u8 z => if 0 ≤ z then if z < 256 then match bytesOf r with
      | some l => some (UInt8.ofNat z.toNat :: l)
      | none => none else none else none
    | _ => none

theorem bytesOf_ok {m : Ren} : ∀ {l l' : List Value} {bs : List UInt8}, VRs m l l' → bytesOf l = some bs → l' = bs.map fun b => .int .u8 b.toNat
  | _, _, bs, .nil, h => by cases h; rfl
  | _, _, bs, .cons hx hs, h => by
    unfold bytesOf at h
    split at h <;> try (cases h; done)
    rename_i z
    cases hx
    split at h <;> try (cases h; done)
    rename_i h0
    split at h <;> try (cases h; done)
    rename_i h1
    split at h <;> try (cases h; done)
    rename_i l hl
    cases h
    rw [List.map_cons, bytesOf_ok hs hl]
    congr 2
    have : (UInt8.ofNat z.toNat).toNat = z.toNat := by
      rw [UInt8.toNat_ofNat']
      omega
    rw [this]
    omega

noncomputable def xB2S (st : St) (x : Value) : Option Value :=
  match x with
  | .slice none _ _ => some (.string ⟨#[]⟩)
  | .slice (some ⟨b, o, none⟩) n _ => match readC st b o n with
    | some l => match bytesOf l with
      | some bs => some (.string ⟨⟨bs⟩⟩)
      | none => none
    | none => none
  | _ => none

theorem xB2S_ok {m : Ren} {st : St} {w : World} (hs : Sim m st w) {x x' v : Value} {K : Value → Prop} (hx : VR m x x') (h : xB2S st x = some v) (hk : plainR v → K v) : vB2S x' w K := by
  unfold xB2S at h
  unfold vB2S
  cases hx <;> simp only at h ⊢ <;> try (cases h; done)
  · cases h
    exact hk fun m => .str _
  · rename_i b o n k a ha
    split at h <;> try (cases h; done)
    rename_i l hl
    split at h <;> try (cases h; done)
    rename_i bs hb
    cases h
    obtain ⟨l', g1, g2, g3⟩ := read_ok hs ha hl
    have e := bytesOf_ok g1 hb
    refine ⟨bs, by rw [← g2, e, List.length_map], fun j y hj => g3 j _ (by rw [e, List.getElem?_map, hj]; rfl), hk fun m => .str _⟩

/-! ### Structs -/

noncomputable def xBuild (P : Program) (t : TypeId) (parts : List (Nat × Value)) : Option Value :=
  match zc P t with
  | some z => match buildOK P t z.size with
    | true => if z.toList.all closedV = true then match xFill (fieldPlaces P t) z.toList parts with
      | some cs => some (.agg ⟨cs⟩)
      | none => none else none
    | false => none
  | none => none

theorem xBuild_ok {P : Program} {m : Ren} {t : TypeId} {ps ps' : List (Nat × Value)} {v : Value} {K : Value → Prop} (hp : PRs m ps ps') (h : xBuild P t ps = some v) (hk : ∀ v', VR m v v' → K v') : vBuild P t ps' K := by
  unfold xBuild at h
  unfold vBuild
  split at h <;> try (cases h; done)
  rename_i z hz
  split at h <;> try (cases h; done)
  rename_i hb
  split at h <;> try (cases h; done)
  rename_i hc
  split at h <;> try (cases h; done)
  rename_i cs hf
  cases h
  simp only [hz, hb]
  exact xFill_ok hp (closed_all (m := m) hc) hf fun out ho => hk _ (.agg ho)

theorem closed_eq {m : Ren} {x y : Value} (h : VR m x y) (hc : closedV x = true) : y = x := by
  cases h <;> first | rfl | (simp [closedV] at hc)

theorem closeds_eq {m : Ren} : ∀ {l l' : List Value}, VRs m l l' → l.all closedV = true → l' = l
  | _, _, .nil, _ => rfl
  | _, _, .cons hx hs, h => by
    simp only [List.all_cons, Bool.and_eq_true] at h
    rw [closed_eq hx h.1, closeds_eq hs h.2]

/-! ### Conversions -/

/-- a pointer as an unsafe.Pointer, and back -/
noncomputable def xToU (st : St) (x : Value) : Option Value :=
  match x with
  | .pointer (some ⟨b, o, none⟩) => match st.heap.get b with
    | some (.cells _ _ cs) => if o < cs.length then some (.pointer (some ⟨b, o, none⟩)) else none
    | _ => none
  | _ => none

theorem xToU_ok {m : Ren} {st : St} {w : World} (hs : Sim m st w) {x x' v : Value} {K : Value → Prop} (hx : VR m x x') (h : xToU st x = some v) (hk : ∀ v', VR m v v' → K v') : vToU x' w K := by
  unfold xToU at h
  split at h <;> try (cases h; done)
  rename_i b o
  split at h <;> try (cases h; done)
  rename_i pl es cs hb
  split at h <;> try (cases h; done)
  rename_i hlt
  cases h
  cases hx with
  | ptr ha =>
    rename_i a
    obtain ⟨c, T, fr, hc, hg, hz, hf, hp⟩ := hs.cells hb ha
    unfold vToU
    simp only [hc]
    exact ⟨by omega, hk _ (.ptr ha)⟩

noncomputable def xFromU (P : Program) (st : St) (u : TypeId) (x : Value) : Option Value :=
  match x with
  | .pointer (some ⟨b, o, none⟩) => match st.heap.get b with
    | some (.cells ⟨_, some T, true, true⟩ _ cs) => if liesAt P P.depth T (cs.length / P.cellsOf T) o u 1 = true then some (.pointer (some ⟨b, o, none⟩)) else none
    | _ => none
  | _ => none

theorem xFromU_ok {P : Program} {m : Ren} {st : St} {w : World} (hs : Sim m st w) {u : TypeId} {x x' v : Value} {K : Value → Prop} (hx : VR m x x') (h : xFromU P st u x = some v) (hk : ∀ v', VR m v v' → K v') : vFromU P u x' w K := by
  unfold xFromU at h
  split at h <;> try (cases h; done)
  rename_i b o
  split at h <;> try (cases h; done)
  rename_i p0 T es cs hb
  split at h <;> try (cases h; done)
  rename_i hl
  cases h
  cases hx with
  | ptr ha =>
    rename_i a
    obtain ⟨c, T', fr, hc, hg, hz, hf, hp⟩ := hs.cells hb ha
    have e1 := hp.t T rfl
    have e2 := hp.z rfl
    have e3 := hp.x rfl
    subst e1
    unfold vFromU
    simp only [hc]
    rw [e2, Nat.zero_add] at e3
    refine ⟨?_, hk _ (.ptr ha)⟩
    rw [e3, e2, Nat.zero_add]
    exact hl

def xVConv (k : CV) (d : TK) (x : Value) : Option Value :=
  match k with
  | .pure => xConv d x
  | _ => none

noncomputable def xConvW (P : Program) (st : St) (k : CV) (d : TK) (x : Value) : Option (Value × St) :=
  match k with
  | .pure => match xConv d x with
    | some v => some (v, st)
    | none => none
  | .s2b e => xS2B st x
  | .b2s => match xB2S st x with
    | some v => some (v, st)
    | none => none
  | .toU => match xToU st x with
    | some v => some (v, st)
    | none => none
  | .fromU u => match xFromU P st u x with
    | some v => some (v, st)
    | none => none
  | _ => none

theorem xConvW_ok {P : Program} {m : Ren} {st st' : St} {w : World} (hs : Sim m st w) {k : CV} {d : TK} {x x' v : Value} {K : Value → World → Prop} (hx : VR m x x') (h : xConvW P st k d x = some (v, st')) (hk : Out m st' v K) : vConvW P k d x' w K := by
  unfold xConvW at h
  unfold vConvW
  cases k <;> simp only at h ⊢ <;> try (cases h; done)
  · split at h <;> try (cases h; done)
    rename_i u hu
    cases h
    exact xConv_ok hx hu fun hp => hk m _ _ (Ren.le.refl m) (hp m) hs
  · exact xS2B_ok hs hx h hk
  · split at h <;> try (cases h; done)
    rename_i u hu
    cases h
    exact xB2S_ok hs hx hu fun hp => hk m _ _ (Ren.le.refl m) (hp m) hs
  · split at h <;> try (cases h; done)
    rename_i u hu
    cases h
    exact xToU_ok (K := fun v => K v w) hs hx hu fun v' hv => hk m _ _ (Ren.le.refl m) hv hs
  · split at h <;> try (cases h; done)
    rename_i u hu
    cases h
    exact xFromU_ok (K := fun v => K v w) hs hx hu fun v' hv => hk m _ _ (Ren.le.refl m) hv hs

/-! ### Least, greatest, checks -/

def xMin (x : Value) : List Value → Option Value
  | [] => some x
  | y :: r => match x, y with
    | .int k a, .int _ b => xMin (.int k (if b < a then b else a)) r
    | _, _ => none

theorem xMin_ok {m : Ren} {K : Value → Prop} : ∀ {r r' : List Value} {x x' v : Value}, VR m x x' → VRs m r r' → xMin x r = some v → (∀ v', VR m v v' → K v') → vMin x' r' K
  | _, _, x, x', v, hx, .nil, h, hk => by cases h; exact hk _ hx
  | _, _, x, x', v, hx, .cons hy hs, h, hk => by
    unfold xMin at h
    unfold vMin
    split at h <;> try (cases h; done)
    cases hx; cases hy
    exact xMin_ok (.int _ _) hs h hk

def xMax (x : Value) : List Value → Option Value
  | [] => some x
  | y :: r => match x, y with
    | .int k a, .int _ b => xMax (.int k (if b > a then b else a)) r
    | _, _ => none

theorem xMax_ok {m : Ren} {K : Value → Prop} : ∀ {r r' : List Value} {x x' v : Value}, VR m x x' → VRs m r r' → xMax x r = some v → (∀ v', VR m v v' → K v') → vMax x' r' K
  | _, _, x, x', v, hx, .nil, h, hk => by cases h; exact hk _ hx
  | _, _, x, x', v, hx, .cons hy hs, h, hk => by
    unfold xMax at h
    unfold vMax
    split at h <;> try (cases h; done)
    cases hx; cases hy
    exact xMax_ok (.int _ _) hs h hk

def xNil (x : Value) : Option Value :=
  match x with
  | .pointer (some a) => some (.pointer (some a))
  | .iface t v => some (.iface t v)
  | .func (.func f) a b => some (.func (.func f) a b)
  | .func (.yield l) a b => some (.func (.yield l) a b)
  | _ => none

theorem xNil_ok {P : Program} {m : Ren} {x x' v : Value} {K : Value → Prop} (hx : VR m x x') (h : xNil x = some v) (hk : ∀ v', VR m v v' → K v') : vNilP P x' K := by
  unfold xNil at h
  unfold vNilP
  cases hx <;> simp only [vNil] at h ⊢ <;> first
    | (cases h; done)
    | (cases h; exact hk _ (by constructor <;> assumption))

/-! ### Operands -/

abbrev Ev := List (Nat × Value)

def getE : Ev → Nat → Option Value
  | [], _ => none
  | (d, v) :: r, i => bif Nat.beq i d then some v else getE r i

/-- what the executor says of the slots that it knows -/
def ER (m : Ren) (e : Ev) (ρ : Env) : Prop := ∀ i v, getE e i = some v → VR m v (ρ i)

def putE (e : Ev) (d : Option Nat) (v : Value) : Ev :=
  match d with
  | none => e
  | some d => (d, v) :: e

theorem ER.put {m : Ren} {e : Ev} {ρ : Env} (h : ER m e ρ) {v v' : Value} (hv : VR m v v') (d : Option Nat) : ER m (putE e d v) (V.put ρ d v') := by
  cases d with
  | none => exact h
  | some d =>
    intro i u hu
    unfold putE getE at hu
    unfold V.put
    simp only at hu ⊢
    cases hb : Nat.beq i d
    · rw [hb] at hu
      exact h i u hu
    · rw [hb] at hu
      cases hu
      exact hv

theorem ER.up {m m' : Ren} (hm : m.le m') {e : Ev} {ρ : Env} (h : ER m e ρ) : ER m' e ρ := fun i v hv => (h i v hv).up hm

def closedC (v : Value) : Bool :=
  match v with
  | .agg cs => cs.toList.all closedV
  | .tuple cs => cs.toList.all closedV
  | v => closedV v

theorem closedC_ok {v : Value} (h : closedC v = true) : plainR v := by
  unfold closedC at h
  split at h
  · rename_i cs
    intro m
    obtain ⟨l⟩ := cs
    exact .agg (closed_all h)
  · rename_i cs
    intro m
    obtain ⟨l⟩ := cs
    exact .tup (closed_all h)
  · exact closedV_ok h

/-- the first N blocks are the package's variables -/
def Glob (N : Nat) (m : Ren) : Prop := ∀ g, g < N → m g = some ⟨g, 0, 0⟩

theorem Glob.up {N : Nat} {m m' : Ren} (hm : m.le m') (h : Glob N m) : Glob N m' := fun g hg => hm.at_ _ _ (h g hg)

def evX (N : Nat) (e : Ev) (x : Operand) : Option Value :=
  match x with
  | .tmp t => getE e t
  | .const v => bif closedC v then some v else none
  | .global g => bif Nat.blt g N then some (.pointer (some ⟨g, 0, none⟩)) else none
  | .func f => some (.func (.func f) #[] #[])

theorem evX_ok {N : Nat} {m : Ren} {e : Ev} {ρ : Env} (he : ER m e ρ) (hg : Glob N m) {x : Operand} {v : Value} (h : evX N e x = some v) : VR m v (ev ρ x) := by
  unfold evX at h
  unfold V.ev
  cases x with
  | tmp t => exact he t v h
  | const v =>
    simp only at h ⊢
    cases hc : closedC v with
    | false => rw [hc, cond_false] at h; cases h
    | true => rw [hc, cond_true] at h; cases h; exact closedC_ok hc m
  | global g =>
    simp only at h ⊢
    cases hb : Nat.blt g N with
    | false => rw [hb, cond_false] at h; cases h
    | true =>
      rw [hb, cond_true] at h
      cases h
      rw [Nat.blt_eq] at hb
      have := VR.ptr (o := 0) (hg g hb)
      simpa using this
  | func f => cases h; exact .fn .nil .nil

end Go.X
