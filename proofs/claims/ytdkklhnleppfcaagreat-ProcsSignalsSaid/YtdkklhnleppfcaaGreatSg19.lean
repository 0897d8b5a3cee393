/-
  Pages, part 12: Resize, whole; New. Own work.
-/
import Derived.Test.YtdkklhnleppfcaaGreatSg18
import Derived.Test.YtdkklhnleppfcaaGreatSg07
import Derived.Test.YtdkklhnleppfcaaGreatSg17
set_option linter.unusedVariables false
set_option linter.unusedSimpArgs false

set_option linter.unusedVariables false
set_option linter.unusedSimpArgs false
set_option maxRecDepth 100000
namespace Go.Proofs.YtdkklhnleppfcaaGreat
open Go Go.V Go.RowKit

end Go.Proofs.YtdkklhnleppfcaaGreat

/-
  Pages, part 13: Resize, whole; New. Own work.
-/
set_option linter.unusedVariables false
set_option linter.unusedSimpArgs false
set_option maxRecDepth 100000
namespace Go.Proofs.YtdkklhnleppfcaaGreat
open Go Go.V Go.RowKit

end Go.Proofs.YtdkklhnleppfcaaGreat

/-
  Pages, part 14: what the laws lean on; lives. Own work.
-/
set_option linter.unusedVariables false
set_option linter.unusedSimpArgs false
set_option maxRecDepth 100000
namespace Go.Proofs.YtdkklhnleppfcaaGreat
open Go Go.V Go.RowKit

structure Own (w0 w : World) (g : Gh) (n : Nat) (c : Nat → UInt8) : Prop where
  fr : Fr (fun _ => False) w0 w
  mine : ∀ k, g.sees k → w0.heap.size ≤ k
  by' : By w g n c
  len : g.ps.length = (n + 63) / 64
  le : n ≤ 4096
  zero : ∀ i, n ≤ i → c i = 0

theorem parts_one {w : World} {l : Nat} {s : List UInt8} (h : Cs w l [str s]) : Parts w (sv l 1 1) s := by
  intro K w1 f hK
  have h1 := h.fr f id
  apply F209_ok
  unfold F209
  refine rLenS ?_
  refine rEq (rBool ?_)
  rw [if_neg (by decide)]
  refine rEq (rBool ?_)
  rw [if_pos (by decide)]
  refine rIA (i := 0) (by decide) ?_
  refine rLd h1 rfl ?_
  exact hK w1 (Fr.refl _ _)

end Go.Proofs.YtdkklhnleppfcaaGreat

/-
  A segment's bytes as a list. Own work.
-/
set_option linter.unusedVariables false
set_option linter.unusedSimpArgs false
namespace Go.Proofs.YtdkklhnleppfcaaGreat
open Go Go.V Go.RowKit

def cont (l : List UInt8) (i : Nat) : UInt8 := (l[i]?).getD 0

theorem seg_cont (l : List UInt8) (a k : Nat) (h : a + k ≤ l.length) : seg (cont l) a k = (l.drop a).take k := by
  apply List.ext_getElem?
  intro i
  rw [seg_get, List.getElem?_take]
  split
  · rw [List.getElem?_drop]
    unfold cont
    rw [List.getElem?_eq_getElem (by omega)]; rfl
  · rfl

def wrl (l : List UInt8) (a : Nat) (s : List UInt8) : List UInt8 := l.take a ++ s ++ l.drop (a + s.length)
theorem wrl_get {l s : List UInt8} {a : Nat} (h : a + s.length ≤ l.length) (i : Nat) : (wrl l a s)[i]? = if a ≤ i ∧ i < a + s.length then s[i - a]? else l[i]? := by
  unfold wrl
  rw [List.append_assoc]
  have ht : (l.take a).length = a := by simp; omega
  by_cases h1 : i < a
  · rw [List.getElem?_append_left (by omega), List.getElem?_take, if_pos h1, if_neg (by omega)]
  · rw [List.getElem?_append_right (by omega), ht]
    by_cases h2 : i < a + s.length
    · rw [List.getElem?_append_left (by omega), if_pos (by omega)]
    · rw [List.getElem?_append_right (by omega), if_neg (by omega), List.getElem?_drop]
      congr 1; omega

theorem cont_wrl {l s : List UInt8} {a : Nat} (h : a + s.length ≤ l.length) : wrc (cont l) a s = cont (wrl l a s) := by
  funext i
  unfold wrc cont
  rw [wrl_get h]
  by_cases h1 : a ≤ i
  · by_cases h2 : i < a + s.length
    · rw [if_pos h1, if_pos ⟨h1, h2⟩, List.getElem?_eq_getElem (by omega)]; rfl
    · rw [if_pos h1, if_neg (by omega), List.getElem?_eq_none (l := s) (by omega)]; rfl
  · rw [if_neg h1, if_neg (by omega)]

end Go.Proofs.YtdkklhnleppfcaaGreat

/-
  The kernel in memory: what the table, the rooms, the things are. Own work.
-/
set_option linter.unusedVariables false
set_option linter.unusedSimpArgs false
set_option maxRecDepth 100000
namespace Go.Proofs.YtdkklhnleppfcaaGreat
open Go Go.V Go.RowKit

def As.mx (b : Nat) (f : Int → Option Value) : As := ⟨fun k => k = b, fun w => ∃ n, MapF w b n f, fun w ⟨n, h⟩ k e => (As.mi b n f).lt w h k e, fun w w' G ⟨n, h⟩ hf hn => ⟨n, h.fr hf (hn b rfl)⟩⟩

def As.by (g : Gh) (l : List UInt8) : As := ⟨g.sees, fun w => By w g l.length (cont l) ∧ g.ps.length = (l.length + 63) / 64 ∧ l.length ≤ 4096, fun w h k hk => h.1.lt k hk, fun w w' F h f hn => ⟨h.1.fr f hn, h.2⟩⟩

structure ObG where
  b : Nat
  lv : Value
  lbl : Option Nat

structure ThG where
  b : Nat
  by' : Gh

structure KG where
  kb : Nat
  tb : Nat
  mb : Nat
  rb : Nat
  tkb : Nat
  alb : Nat
  hb : Nat
  db : Nat
  TG : Int → ObG
  HG : Int → ThG
  fx : Int → Option Value
  hx : Int → Option Value
  root : Int
  AG : Int → Value × Option Nat

def nilS : Value := .slice none 0 0
def obC (n : Int) (g : ObG) (o : ObP) : List Value := [it n, it o.kind, it o.quota, it o.used, it o.links, it 2, nilS, g.lv]
def obAs (n : Int) (g : ObG) (o : ObP) : As := .all [.blk g.b (obC n g o), .rw 1 g.lv o.list.length (o.list.map it) g.lbl]

def bytesV' (g : Gh) : Option (List UInt8) → Value
  | none => .pointer none
  | some _ => pt g.b 0
def bytesAs (g : Gh) : Option (List UInt8) → As
  | none => .emp
  | some l => As.by g l
def thC (g : ThG) (x : ThP) : List Value := [bytesV' g.by' x.bytes, nilS, it x.clear, nilS, it x.space.1, it x.space.2] ++ stateC x.r1 x.pc ++ [u64v x.entry, it x.does, str [], str []]
def thAs (g : ThG) (x : ThP) : As := .all [.blk g.b (thC g x), bytesAs g.by' x.bytes]

def ptrF {α : Type} (T : Int → Option α) (at' : Int → Nat) (fx : Int → Option Value) (k : Int) : Option Value := match T k with
  | some _ => some (pt (at' k) 0)
  | none => fx k

def As.tab (g : KG) (κ : KP) : As := .all [.blk g.tb [.map (some g.mb), it g.root], .mi g.mb κ.n (ptrF κ.T (fun k => (g.TG k).b) g.fx), .fam κ.T (fun k o => obAs k (g.TG k) o)]
def As.rooms (g : KG) (κ : KP) : As := .all [.blk g.rb [it κ.last, .map (some g.tkb), .map (some g.alb)], As.mx g.tkb (fun k => (κ.tk k).map fun t => .agg #[it t.1, it t.2.1, it t.2.2]),
  As.mx g.alb (fun k => (κ.al k).map fun _ => .agg #[(g.AG k).1]), .fam κ.al (fun k l => .rw 1 (g.AG k).1 l.length (l.map it) (g.AG k).2)]
def As.kern (g : KG) (κ : KP) : As := .all [.blk g.kb [pt g.tb 0, pt g.rb 0, .map (some g.hb), .map (some g.db), it κ.ticks], As.tab g κ, As.rooms g κ,
  As.mx g.hb (ptrF κ.H (fun k => (g.HG k).b) g.hx), .fam κ.H (fun k x => thAs (g.HG k) x), As.mx g.db (fun k => if κ.D k = true then some (.bool true) else none)]

section
variable {g : KG} {κ : KP} {w : World} {n : Int} {o : ObP} {x : ThP}

theorem kCs (h : (As.kern g κ).holds w) : Cs w g.kb [pt g.tb 0, pt g.rb 0, .map (some g.hb), .map (some g.db), it κ.ticks] := h.1 _ (.head _)
theorem kTab (h : (As.kern g κ).holds w) : (As.tab g κ).holds w := h.1 _ (.tail _ (.head _))
theorem kHm (h : (As.kern g κ).holds w) : ∃ n, MapF w g.hb n (ptrF κ.H (fun k => (g.HG k).b) g.hx) := h.1 _ (.tail _ (.tail _ (.tail _ (.head _))))
theorem kTh (h : (As.kern g κ).holds w) (hx : κ.H n = some x) : (thAs (g.HG n) x).holds w := (h.1 _ (.tail _ (.tail _ (.tail _ (.tail _ (.head _)))))).1 n x hx
theorem tCs (h : (As.tab g κ).holds w) : Cs w g.tb [.map (some g.mb), it g.root] := h.1 _ (.head _)
theorem tMp (h : (As.tab g κ).holds w) : MapF w g.mb κ.n (ptrF κ.T (fun k => (g.TG k).b) g.fx) := h.1 _ (.tail _ (.head _))
theorem tOb (h : (As.tab g κ).holds w) (ho : κ.T n = some o) : (obAs n (g.TG n) o).holds w := (h.1 _ (.tail _ (.tail _ (.head _)))).1 n o ho
theorem obCs {g : ObG} (h : (obAs n g o).holds w) : Cs w g.b (obC n g o) := h.1 _ (.head _)
theorem obList {g : ObG} (h : (obAs n g o).holds w) : RowW 1 w g.lv o.list.length (o.list.map it) g.lbl := h.1 _ (.tail _ (.head _))
theorem thCs {g : ThG} (h : (thAs g x).holds w) : Cs w g.b (thC g x) := h.1 _ (.head _)
theorem thBy {g : ThG} {l : List UInt8} (h : (thAs g x).holds w) (hl : x.bytes = some l) : By w g.by' l.length (cont l) ∧ g.by'.ps.length = (l.length + 63) / 64 ∧ l.length ≤ 4096 := by
  have := h.1 _ (.tail _ (.head _))
  rw [hl] at this
  exact this
end

end Go.Proofs.YtdkklhnleppfcaaGreat
