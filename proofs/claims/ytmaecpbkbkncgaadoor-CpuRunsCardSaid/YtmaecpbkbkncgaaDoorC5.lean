/-
  Cpu, part 5: memories that steps are done on. Own work.
-/
import Derived.Test.YtmaecpbkbkncgaaDoorC4
set_option linter.unusedVariables false
set_option linter.unusedSimpArgs false
set_option maxRecDepth 100000
namespace Go.Proofs.YtmaecpbkbkncgaaDoor
open Go Go.V Go.RowKit

def ldP (l : List UInt8) (x k : Nat) : Option (List UInt8) := if x + k ≤ l.length then some ((l.drop x).take k) else none
/-- the bytes behind a store, and its error -/
def stR (l : List UInt8) (x : Nat) (s : List UInt8) : List UInt8 × Int := if x + s.length ≤ l.length then (wrl l x s, 0) else (l, 9)
def ldV : Option (List UInt8) → Value
  | some s => .tuple #[str s, it 0]
  | none => .tuple #[str [], it 9]

theorem stR_len (l : List UInt8) (x : Nat) (s : List UInt8) : (stR l x s).1.length = l.length := by
  unfold stR
  split
  · rename_i h; exact wrl_len h
  · rfl

structure Mem (m : Value) (b : Nat) : Prop where
  load : ∀ {w0 w : World} {g : Gh} {l : List UInt8} {x k : Nat} {need : Value} {K : Value → World → Prop}, Own w0 w g l.length (cont l) → g.b = b → x < 18446744073709551616 → k ≤ 8 →
    (∀ w', Fr (fun _ => False) w w' → K (ldV (ldP l x k)) w') → vInvoke Tryd.prog m "Load" [ut x, it k, need] w K
  store : ∀ {w0 w : World} {g : Gh} {l s : List UInt8} {x : Nat} {K : Value → World → Prop}, Own w0 w g l.length (cont l) → g.b = b → x < 18446744073709551616 → s.length ≤ 8 →
    (∀ w' g', Evo w g w' g' → Own w0 w' g' (stR l x s).1.length (cont (stR l x s).1) → K (it (stR l x s).2) w') → vInvoke Tryd.prog m "Store" [ut x, str s] w K
  nilL : ∀ {K : Value → Prop}, K (.func (.method "Load") #[m] #[]) → vNilP Tryd.prog (.func (.method "Load") #[m] #[]) K
  nilS : ∀ {K : Value → Prop}, K (.func (.method "Store") #[m] #[]) → vNilP Tryd.prog (.func (.method "Store") #[m] #[]) K

def atI (x : Nat) : Int := if 4096 < x then -1 else x

theorem at_spec {w : World} {x : Nat} {K : Value → World → Prop} (hx : x < 18446744073709551616) (hK : K (it (atI x)) w) : CallK Tryd.prog 87 #[ut x] w K := by
  apply Ret.call
  apply F87_ok
  unfold F87
  unfold atI at hK
  refine rGtU (y := 4096) <| rIf (fun h => ?_) (fun h => ?_)
  · rw [if_pos (by simpa using h)] at hK
    exact hK
  · have h : ¬ 4096 < x := by simpa using h
    rw [if_neg h] at hK
    refine rCv ?_
    rw [wrap_id (by omega) (by omega)]
    exact hK

theorem fits_at {n x k : Nat} (hn : n ≤ 4096) : fitsE n (atI x) k = if x + k ≤ n then 0 else 9 := by
  unfold fitsE atI
  split <;> split <;> split at * <;> first | rfl | omega

theorem fits_nat {n x k : Nat} : fitsE n (x : Int) k = if x + k ≤ n then 0 else 9 := by
  unfold fitsE
  split <;> split <;> first | rfl | omega

theorem ld_of {l : List UInt8} {x k : Nat} {a : Int} (h : fitsE l.length a k = if x + k ≤ l.length then 0 else 9) (ha : x + k ≤ l.length → a = x) :
    Value.tuple #[str (if fitsE l.length a k = 0 then seg (cont l) a.toNat (k : Int).toNat else []), it (fitsE l.length a k)] = ldV (ldP l x k) := by
  unfold ldP
  by_cases hf : x + k ≤ l.length
  · rw [if_pos hf] at h
    rw [h, if_pos rfl, if_pos hf, ha hf, Int.toNat_natCast, Int.toNat_natCast, seg_cont _ _ _ hf]
    rfl
  · rw [if_neg hf] at h
    rw [h, if_neg (by decide), if_neg hf]
    rfl

theorem st_of {w0 w' : World} {g' : Gh} {l s : List UInt8} {x : Nat} {a : Int} (h : fitsE l.length a s.length = if x + s.length ≤ l.length then 0 else 9) (ha : x + s.length ≤ l.length → a = x)
    (ho : Own w0 w' g' l.length (if fitsE l.length a s.length = 0 then wrc (cont l) a.toNat s else cont l)) : Own w0 w' g' (stR l x s).1.length (cont (stR l x s).1) ∧ fitsE l.length a s.length = (stR l x s).2 := by
  rw [stR_len]
  unfold stR
  by_cases hf : x + s.length ≤ l.length
  · rw [if_pos hf] at h
    rw [h, if_pos rfl, ha hf, Int.toNat_natCast, cont_wrl hf] at ho
    rw [if_pos hf, h]
    exact ⟨ho, rfl⟩
  · rw [if_neg hf] at h
    rw [h, if_neg (by decide)] at ho
    rw [if_neg hf, h]
    exact ⟨ho, rfl⟩

theorem m78L : methodOf Tryd.prog 78 "Load" = some 85 := by kernel_rfl
theorem m78S : methodOf Tryd.prog 78 "Store" = some 86 := by kernel_rfl
theorem m35L : methodOf Tryd.prog 35 "Load" = some 83 := by kernel_rfl
theorem m35S : methodOf Tryd.prog 35 "Store" = some 84 := by kernel_rfl

theorem invoke_of {t : TypeId} {v : Value} {name : String} {f : FuncId} {args : List Value} {w : World} {K : Value → World → Prop} (h : methodOf Tryd.prog t name = some f) (k : CallK Tryd.prog f (v :: args).toArray w K) : vInvoke Tryd.prog (.iface t v) name args w K := by
  unfold vInvoke
  simp only [h]
  exact k

theorem nil_method {t : TypeId} {v : Value} {name : String} {K : Value → Prop} (h : (methodOf Tryd.prog t name).isSome = true) (k : K (.func (.method name) #[.iface t v] #[])) : vNilP Tryd.prog (.func (.method name) #[.iface t v] #[]) K := ⟨h, k⟩

theorem Own.ge {w0 w : World} {g : Gh} {n : Nat} {c : Nat → UInt8} (h : Own w0 w g n c) : ∀ k, g.sees k → k < w.heap.size := h.by'.lt

theorem memFlat (b : Nat) : Mem (.iface 78 (.agg #[pt b 0])) b where
  nilL := fun k => nil_method (by rw [m78L]; rfl) k
  nilS := fun k => nil_method (by rw [m78S]; rfl) k
  load := by
    intro w0 w g l x k need K h hb hx hk hK
    subst hb
    refine invoke_of m78L ?_
    show CallK Tryd.prog 85 #[.agg #[pt g.b 0], ut x, it k, need] w K
    apply Ret.call
    apply F85_ok
    unfold F85
    refine rBoxA ?_
    intro w1 c1 f1 s1
    refine ⟨fun W => Cs W w.heap.size [pt g.b 0], c1.drew, ?_⟩
    refine rFA0 <| rLdS (pt g.b 0) (fun W hW => ⟨_, hW, rfl⟩) ⟨?_, trivial⟩
    refine at_spec hx ⟨c1.drew, ?_, trivial⟩
    refine (h.more f1.drew).read (by unfold atI; split <;> omega) (by unfold atI; split <;> omega) ?_
    intro w3 h3 f3
    refine ⟨c1.drew.fr f3 id, ?_⟩
    refine rExt0 <| rExt1 ?_
    rw [ld_of (fits_at h.le) (fun hf => by unfold atI; rw [if_neg]; have := h.le; omega)]
    exact hK w3 (f1.drew.more f3)
  store := by
    intro w0 w g l s x K h hb hx hs hK
    subst hb
    refine invoke_of m78S ?_
    show CallK Tryd.prog 86 #[.agg #[pt g.b 0], ut x, str s] w K
    apply Ret.call
    apply F86_ok
    unfold F86
    refine rBoxA ?_
    intro w1 c1 f1 s1
    have hlt := h.ge
    have hle := h.le
    have hfin : ∀ w3, Fr (fun _ => False) w1 w3 → Cs w3 w.heap.size [pt g.b 0] → ∀ q, Cs w3 q [str s] → CallK Tryd.prog 12 #[pt g.b 0, it (atI x), sv q 1 1] w3 fun v13 w_4 => Cs w_4 w.heap.size [pt g.b 0] ∧ K v13 w_4 := by
      intro w3 f3 c3 q cq
      refine (h.more (f1.more f3)).writeE (by unfold atI; split <;> omega) (by unfold atI; split <;> omega) (parts_one cq) ?_
      intro w4 g4 evo h4
      obtain ⟨h4, e4⟩ := st_of (fits_at hle) (fun hf => by unfold atI; rw [if_neg]; omega) h4
      refine ⟨c3.fr evo.fr (fun hf => by have := hlt _ (.inl hf); omega), ?_⟩
      rw [e4]
      exact hK w4 g4 (evo.fore (f1.more f3)) h4
    refine ⟨fun W => Cs W w.heap.size [pt g.b 0], c1.drew, ?_⟩
    refine rFA0 <| rLdS (pt g.b 0) (fun W hW => ⟨_, hW, rfl⟩) ⟨?_, ?_, trivial⟩
    · refine at_spec hx ⟨c1.drew, ?_, trivial⟩
      refine bs41_1 ?_
      intro w3 c3 f3 s3
      refine ⟨c1.drew.fr f3 id, ?_, trivial⟩
      exact hfin w3 ((Fr.refl _ w1).drew.more f3) (c1.drew.fr f3 id) _ c3
    · refine bs41_1 ?_
      intro w3 c3 f3 s3
      refine ⟨c1.drew.fr f3 id, ?_, trivial⟩
      refine at_spec hx ⟨c1.drew.fr f3 id, ?_, trivial⟩
      exact hfin w3 ((Fr.refl _ w1).drew.more f3) (c1.drew.fr f3 id) _ c3

theorem memLaw (b : Nat) : Mem (.iface 35 (.agg #[pt b 0])) b where
  nilL := fun k => nil_method (by rw [m35L]; rfl) k
  nilS := fun k => nil_method (by rw [m35S]; rfl) k
  load := by
    intro w0 w g l x k need K h hb hx hk hK
    subst hb
    refine invoke_of m35L ?_
    show CallK Tryd.prog 83 #[.agg #[pt g.b 0], ut x, it k, need] w K
    apply Ret.call
    apply F83_ok
    unfold F83
    have hle := h.le
    refine rBoxA ?_
    intro w1 c1 f1 s1
    refine rGtU (y := 1048576) <| rIf (fun hb => ?_) (fun hb => ?_)
    · have hb : 1048576 < x := by simpa using hb
      have := hK w1 f1
      unfold ldP at this
      rw [if_neg (by omega)] at this
      exact this
    have hb : ¬ 1048576 < x := by simpa using hb
    refine rFA0 <| rLd c1 rfl <| rCv ?_
    rw [wrap_id (by omega) (by omega)]
    refine (h.more f1).read (by omega) (by omega) ?_
    intro w3 h3 f3
    refine rExt0 <| rExt1 ?_
    rw [ld_of fits_nat (fun hf => rfl)]
    exact hK w3 (f1.more f3)
  store := by
    intro w0 w g l s x K h hb hx hs hK
    subst hb
    refine invoke_of m35S ?_
    show CallK Tryd.prog 84 #[.agg #[pt g.b 0], ut x, str s] w K
    apply Ret.call
    apply F84_ok
    unfold F84
    refine rBoxA ?_
    intro w1 c1 f1 s1
    have hlt := h.ge
    have hle := h.le
    refine rGtU (y := 1048576) <| rIf (fun hb => ?_) (fun hb => ?_)
    · have hb : 1048576 < x := by simpa using hb
      have := hK w1 g ((Evo.refl _ _).fore f1)
      unfold stR at this
      rw [if_neg (by omega)] at this
      exact this (h.more f1)
    have hb : ¬ 1048576 < x := by simpa using hb
    refine rFA0 <| rLd c1 rfl <| rCv ?_
    rw [wrap_id (by omega) (by omega)]
    refine bs41_1 ?_
    intro w3 c3 f3 s3
    refine (h.more (f1.more f3)).writeE (by omega) (by omega) (parts_one c3) ?_
    intro w4 g4 evo h4
    obtain ⟨h4, e4⟩ := st_of fits_nat (fun hf => rfl) h4
    rw [e4]
    exact hK w4 g4 (evo.fore (f1.more f3)) h4

end Go.Proofs.YtmaecpbkbkncgaaDoor
