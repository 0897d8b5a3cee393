/-
  Cpu, part 17: the document's steps: what is loaded, wanted, done. Own work.
-/
import Derived.Test.YtmaecpbkbkncgaaDoorC15
set_option linter.unusedVariables false
set_option linter.unusedSimpArgs false
set_option maxRecDepth 100000
namespace Go.Proofs.YtmaecpbkbkncgaaDoor
open Go Go.V Go.RowKit

/-! ### Bytes that are only read -/

/-- a slice that reads l, whatever its block lets be written; its block, if it has one -/
def Bz (w : World) (v : Value) (l : List UInt8) (bl : Option Nat) : Prop :=
  match bl with
  | none => v = .slice none 0 0 ∧ l = []
  | some q => (∃ c, v = .slice (some ⟨q, 0, none⟩) l.length c ∧ l.length ≤ c) ∧ q < w.heap.size ∧ ∀ (j : Nat) (b : UInt8), l[j]? = some b → w.cell? ⟨q, j, none⟩ = some (.int .u8 b.toNat)

section
variable {w w' : World} {v : Value} {l : List UInt8} {bl : Option Nat}

theorem Bz.of (h : Bs w v l bl) : Bz w v l bl := by
  cases bl with
  | none => exact ⟨h.1, bts_nil h.2⟩
  | some q =>
    obtain ⟨r, rfl, h2⟩ := h
    refine ⟨⟨(bts l).length + r.length, by rw [bts_len], by rw [bts_len]; omega⟩, h2.lt, fun j b hj => Cs.cell h2 ?_⟩
    rw [List.getElem?_append_left (by rw [bts_len]; exact (List.getElem?_eq_some_iff.1 hj).1)]
    simp [bts, hj]

theorem Bz.fr {F : Nat → Prop} (h : Bz w v l bl) (hf : Fr F w w') (hF : ∀ k, bl = some k → ¬ F k) : Bz w' v l bl := by
  cases bl with
  | none => exact h
  | some q =>
    obtain ⟨h1, h2, h3⟩ := h
    refine ⟨h1, Nat.lt_of_lt_of_le h2 hf.size, fun j b hj => ?_⟩
    rw [World.cell?_of_block (w := w) (hf.same q h2 (hF q rfl))]
    exact h3 j b hj

theorem Bz.more (h : Bz w v l bl) (hf : Fr (fun _ => False) w w') : Bz w' v l bl := h.fr hf fun _ _ => id
theorem Bz.lt (h : Bz w v l bl) : ∀ k, bl = some k → k < w.heap.size := by
  rintro k rfl
  exact h.2.1

theorem Bz.lenE (h : Bz w v l bl) {K : Value → Prop} (k : K (it l.length)) : vLen (.slice 1) v K := by
  cases bl with
  | none => obtain ⟨rfl, rfl⟩ := h; exact k
  | some q => obtain ⟨⟨c, rfl, _⟩, _⟩ := h; exact k

theorem Bz.b2s {q off n c : Nat} {s : List UInt8} (hn : s.length = n) (hl : ∀ (j : Nat) (b : UInt8), s[j]? = some b → w.cell? ⟨q, off + j, none⟩ = some (.int .u8 b.toNat)) {K : Value → Prop} (k : K (str s)) :
    vB2S (.slice (some ⟨q, off, none⟩) n c) w K := by
  refine ⟨s, hn, ?_, k⟩
  intro j b hj
  rw [addr_add]
  exact hl j b hj

theorem Bz.toStr (h : Bz w v l bl) {K : Value → Prop} (k : K (str l)) : vB2S v w K := by
  cases bl with
  | none => obtain ⟨rfl, rfl⟩ := h; exact k
  | some q =>
    obtain ⟨⟨c, rfl, _⟩, _, h3⟩ := h
    exact Bz.b2s rfl (fun j b hj => by rw [Nat.zero_add]; exact h3 j b hj) k

theorem Bz.cut (h : Bz w v l bl) {a k : Nat} {k1 k2 : IntKind} (hak : a + k ≤ l.length) {K : Value → Prop} (kk : K (str ((l.drop a).take k))) :
    vSlice (.slice 1) v (some (.int k1 a)) (some (.int k2 ((a + k : Nat) : Int))) fun u => vB2S u w K := by
  cases bl with
  | none =>
    obtain ⟨rfl, rfl⟩ := h
    have : a = 0 := by simp at hak; omega
    subst this
    have : k = 0 := by simp at hak; omega
    subst this
    refine ⟨by omega, by omega, by omega, by omega, ?_⟩
    have kk' : K (str []) := by simpa using kk
    have : vB2S (.slice none 0 0) w K := kk'
    simpa using this
  | some q =>
    obtain ⟨⟨c, rfl, hc⟩, _, h3⟩ := h
    refine ⟨by omega, by omega, by omega, by omega, ?_⟩
    simp only [Int.toNat_natCast, Nat.add_sub_cancel_left]
    by_cases hk : k = 0
    · subst hk
      have : ∀ A c, vB2S (.slice (some A) 0 c) w K := fun A c => ⟨[], rfl, by simp, by simpa using kk⟩
      split
      · exact this _ _
      · exact this _ _
    · rw [if_neg (by omega)]
      show vB2S (.slice (some (Addr.add ⟨q, 0, none⟩ (a * 1))) k _) w K
      rw [addr_add, Nat.zero_add, Nat.mul_one]
      refine Bz.b2s (by simp; omega) (fun j b hj => ?_) kk
      rw [List.getElem?_take] at hj
      split at hj
      · rw [List.getElem?_drop] at hj
        exact h3 _ b hj
      · cases hj

theorem Bz.src (h : Bz w v l bl) : Src w v (bts l) := by
  cases bl with
  | none => obtain ⟨rfl, rfl⟩ := h; exact src_nil
  | some q =>
    obtain ⟨⟨c, rfl, hc⟩, _, h3⟩ := h
    refine ⟨by rw [bts_len]; rfl, fun K k => ⟨bts l, by rw [bts_len]; omega, ?_, k⟩⟩
    intro j x hj
    rw [addr_add, Nat.zero_add]
    unfold bts at hj
    rw [List.getElem?_map] at hj
    obtain ⟨b, hb, rfl⟩ := Option.map_eq_some_iff.1 hj
    exact h3 j b hb
end

def ldB : Option (List UInt8) → Value
  | some s => .tuple #[str s, .bool true]
  | none => .tuple #[str [], .bool false]

/-- gatehouseref06.Load -/
theorem rload_spec {w : World} {v : Value} {l : List UInt8} {bl : Option Nat} {x k : Nat} {K : Value → World → Prop} (hb : Bz w v l bl) (hl : l.length ≤ 4096) (hx : x < 18446744073709551616) (hk : k ≤ 8) (hK : K (ldB (ldP l x k)) w) : CallK Tryd.prog 49 #[v, ut x, it k] w K := by
  apply Ret.call
  apply F49_ok
  unfold F49
  unfold ldP at hK
  refine hb.lenE <| rCv ?_
  rw [wrap_u64n, Nat.mod_eq_of_lt (by omega)]
  refine rGtU <| rIf (fun h => ?_) (fun h => ?_)
  · have h : l.length < x := by simpa using h
    rw [if_neg (by omega)] at hK
    exact hK
  have h : ¬ l.length < x := by simpa using h
  refine hb.lenE <| rCv ?_
  rw [wrap_id (by omega) (by omega)]
  refine rSub (by omega) (by omega) <| rGt <| rIf (fun h2 => ?_) (fun h2 => ?_)
  · have h2 : (l.length : Int) - x < k := by simpa using h2
    rw [if_neg (by omega)] at hK
    exact hK
  have h2 : ¬ (l.length : Int) - x < k := by simpa using h2
  rw [if_pos (by omega)] at hK
  refine rCv <| rCv ?_
  rw [wrap_id (by omega) (by omega)]
  refine rAdd (by omega) (by omega) ?_
  have e : (x : Int) + (k : Int) = ((x + k : Nat) : Int) := by omega
  rw [e]
  refine hb.cut (by omega) ?_
  exact hK

/-- gatehouseref06.Put -/
theorem put_spec {w : World} {r : List Nat} {a : Int} {x : Nat} {K : Value → World → Prop} (hr : St r) (ha : 0 ≤ a ∧ a < 16) (hx : x < 18446744073709551616) (hK : ∀ w', Fr (fun _ => False) w w' → K (stv (putP r a x)) w') : CallK Tryd.prog 58 #[stv r, it a, ut x] w K := by
  apply Ret.call
  apply F58_ok
  unfold F58
  refine rBoxA ?_
  intro w1 c1' f1 s1
  have c1 : Cs w1 w.heap.size (stc r) := c1'
  refine rAllocT zc25 ?_
  intro w2 h2 f2 s2
  have d2 : Cs w2 w1.heap.size (stc (List.replicate 17 0)) := ⟨_, h2⟩
  have c2 := c1.fr f2 id
  refine rFA0 <| rIAr ha.1 ha.2 <| rSt c2 (by rw [stc_len hr]; omega) rfl (by simp) ?_
  intro w3 u3
  have c3 := u3.cs
  rw [stc_put] at c3
  have h3 := hr.put (i := a) hx
  have d3 := d2.up u3 (by omega)
  refine ld17 h3 c3 ?_
  refine lay17 (w0 := w) (K := fun v W => K v W) h3 d3 (by simp) ?_
  intro w4 f4
  exact hK w4 (((f1.more f2).trans u3.fr fun k hk e => by omega).trans f4 fun k hk e => by omega)

/-- what is wanted of the memory: written or not, where, how many, what -/
structure Ask where
  wr : Bool
  ad : Nat
  n : Nat
  s : List UInt8

abbrev Ask.cs (a : Ask) : List Value := [.bool a.wr, ut a.ad, it a.n, str a.s]
abbrev Ask.v (a : Ask) : Value := .agg #[.bool a.wr, ut a.ad, it a.n, str a.s]

def wantsP (r : List Nat) (c : Cd) : Ask :=
  if c.op = 18 then ⟨false, addrP r c, 1, []⟩
  else if c.op = 19 then ⟨true, addrP r c, 1, (eight (rg r c.a)).take 1⟩
  else if c.op = 20 then ⟨false, addrP r c, 8, []⟩
  else if c.op = 21 then ⟨true, addrP r c, 8, eight (rg r c.a)⟩
  else ⟨false, 0, 0, []⟩

theorem zc114 : zc Tryd.prog 114 = some #[.bool false, .int .u64 0, it 0, str []] := by kernel_rfl
theorem b114 : (fun (b : Bool) (a n : Int) (s : ByteArray) (K : Value → Prop) => vBuild Tryd.prog 114 [(0, .bool b), (1, .int .u64 a), (2, it n), (3, .string s)] K) = fun b a n s K => ((1 : Nat) = 1 ∧ (1 : Nat) = 1 ∧ (1 : Nat) = 1 ∧ (1 : Nat) = 1 ∧ K (.agg #[.bool b, .int .u64 a, it n, .string s])) := by kernel_rfl
theorem build114 {b : Bool} {a n : Int} {s : List UInt8} {K : Value → Prop} (k : K (.agg #[.bool b, .int .u64 a, it n, str s])) : vBuild Tryd.prog 114 [(0, .bool b), (1, .int .u64 a), (2, it n), (3, str s)] K := by
  have := congrFun (congrFun (congrFun (congrFun (congrFun b114 b) a) n) ⟨s.toArray⟩) K
  exact this ▸ ⟨rfl, rfl, rfl, rfl, k⟩
theorem b114e : (fun (K : Value → Prop) => vBuild Tryd.prog 114 [] K) = fun K => K (.agg #[.bool false, .int .u64 0, it 0, str []]) := by kernel_rfl
theorem build114e {K : Value → Prop} (k : K (.agg #[.bool false, .int .u64 0, it 0, str []])) : vBuild Tryd.prog 114 [] K := by
  have := congrFun b114e K
  exact this ▸ k

theorem ask_end {w0 w : World} {q : Nat} {a : Ask} {K : Value → World → Prop} (c : Cs w q [.bool false, .int .u64 0, it 0, str []]) (f : Fr (fun _ => False) w0 w) (hq : w0.heap.size ≤ q) (hK : ∀ w', Fr (fun _ => False) w0 w' → K a.v w') :
    vSt (some 4) (pt q 0) a.v w fun w' => vLd (.agg 4) (pt q 0) w' fun r => K r w' := by
  refine rStN c rfl (by simp) (by intro x hx; simp at hx; rcases hx with rfl | rfl | rfl | rfl <;> rfl) ?_
  intro w2 u2
  refine rLdN u2.cs (by simp [spl]) ?_
  exact hK w2 (f.trans u2.fr fun k hk e => by omega)

/-- gatehouseref06.Wants -/
theorem wants_spec {w : World} {r : List Nat} {c : Cd} {K : Value → World → Prop} (hr : St r) (hc : rightB c = true) (hK : ∀ w', Fr (fun _ => False) w w' → K (wantsP r c).v w') : CallK Tryd.prog 51 #[stv r, c.v] w K := by
  apply Ret.call
  apply F51_ok
  unfold F51
  obtain ⟨hop, hfit, ha, hb, hcc⟩ := right_regs hc
  refine rBoxA ?_
  intro w1 c1' f1 s1
  have c1 : Cs w1 w.heap.size (stc r) := c1'
  refine rBoxA ?_
  intro w2 d2' f2 s2
  have d2 : Cs w2 w1.heap.size c.cs := d2'
  have c2 := c1.fr f2 id
  refine rAllocT zc114 ?_
  intro w3 h3 f3 s3
  have e3 : Cs w3 w2.heap.size [.bool false, .int .u64 0, it 0, str []] := ⟨_, h3⟩
  have c3 := c2.fr f3 id
  have d3 := d2.fr f3 id
  have f03 := ((f1.more f2).more f3).drew
  refine ⟨fun W => Cs W w1.heap.size c.cs ∧ Cs W w.heap.size (stc r), ⟨d3.drew, c3.drew⟩, ?_⟩
  refine rFA0 <| rLdS (it c.b) (fun W hW => ⟨_, hW.1, rfl⟩) <| rFA0 <| rIAr hb.1 hb.2 <| rLdS _ (fun W hW => ⟨_, hW.2, hr.cell (by omega)⟩) <| rFA0 <| rLdS (it c.n) (fun W hW => ⟨_, hW.1, rfl⟩) <| rCv ?_
  rw [wrap_u64m]
  refine ⟨rfl, ?_⟩
  rw [wrap_u64m]
  have hq : w.heap.size ≤ w2.heap.size := by omega
  have e3d := e3.drew
  have c3d := c3.drew
  have d3d := d3.drew
  clear e3 c3 d3 h3
  generalize w3.drew = V at *
  unfold wantsP at hK
  have had : (18 ≤ c.op ∧ c.op ≤ 21) → ((rg r c.b : Int) + c.n % 18446744073709551616) % 18446744073709551616 = (addrP r c : Int) := by
    intro h
    have := right_mov hc h
    unfold addrP
    omega
  refine rFA0 <| rLd d3d rfl <| rEqE (fun h => ?_) (fun h => ?_)
  · rw [if_pos h] at hK
    rw [had (by omega)]
    exact build114 (s := []) <| ask_end (a := ⟨false, addrP r c, 1, []⟩) e3d f03 hq hK
  rw [if_neg h] at hK
  refine rEqE (fun h => ?_) (fun h => ?_)
  · rw [if_pos h] at hK
    rw [had (by omega)]
    refine rFA0 <| rLd d3d rfl <| rFA0 <| rIAr ha.1 ha.2 <| rLd c3d (hr.cell (by omega)) <| rRemU (y := 256) (by decide) <| rCv ?_
    rw [wrap_u8]
    refine bs38_1 ?_
    intro w5 v5 b5 f5 s5
    refine b5.toStr ?_
    have e1 : [UInt8.ofNat (rg r c.a % 256)] = (eight (rg r c.a)).take 1 := by
      have : (eight (rg r c.a)).take 1 = [UInt8.ofNat (rg r c.a / 256 ^ 0)] := rfl
      rw [this, Nat.pow_zero, Nat.div_one]
      congr 1
      apply UInt8.toNat.inj
      simp
    rw [e1]
    exact build114 <| ask_end (a := ⟨true, addrP r c, 1, (eight (rg r c.a)).take 1⟩) (e3d.fr f5 id) (f03.more f5) hq hK
  rw [if_neg h] at hK
  refine rEqE (fun h => ?_) (fun h => ?_)
  · rw [if_pos h] at hK
    rw [had (by omega)]
    exact build114 (s := []) <| ask_end (a := ⟨false, addrP r c, 8, []⟩) e3d f03 hq hK
  rw [if_neg h] at hK
  refine rEqE (fun h => ?_) (fun h => ?_)
  · rw [if_pos h] at hK
    rw [had (by omega)]
    refine rFA0 <| rLd d3d rfl <| rFA0 <| rIAr ha.1 ha.2 <| rLd c3d (hr.cell (by omega)) ?_
    refine eight35 (hr.rg_lt _) ?_
    intro w5 f5
    exact build114 <| ask_end (a := ⟨true, addrP r c, 8, eight (rg r c.a)⟩) (e3d.fr f5 id) (f03.more f5) hq hK
  rw [if_neg h] at hK
  exact build114e <| ask_end (a := ⟨false, 0, 0, []⟩) e3d f03 hq hK

/-! ### What is done -/

def doesP (r : List Nat) (c : Cd) (s : List UInt8) : List Nat × Int :=
  if c.op = 0 then (r, 2)
  else if c.op = 2 then (goP r (nextP r), 1)
  else if c.op = 3 then (putP (goP r (nextP r)) c.a c.n.toNat, 0)
  else if c.op = 4 then (putP (goP r (nextP r)) c.a ((rg r c.a * 65536 + c.n.toNat) % 18446744073709551616), 0)
  else if c.op = 5 then (putP (goP r (nextP r)) c.a (rg r c.b), 0)
  else if c.op = 18 ∨ c.op = 20 then (putP (goP r (nextP r)) c.a (wv s), 0)
  else if c.op = 22 then (goP r (farP r c.n), 0)
  else if c.op = 23 then (goP r (if rg r c.a = 0 then farP r c.n else nextP r), 0)
  else if c.op = 24 then (goP r (if rg r c.a = 0 then nextP r else farP r c.n), 0)
  else if c.op = 25 then (putP (goP r (rg r c.b)) c.a (nextP r), 0)
  else if c.op = 26 then (goP r (rg r 15), 0)
  else if 6 ≤ c.op ∧ c.op ≤ 17 then (putP (goP r (nextP r)) c.a (reck c.op (rg r c.b) (rg r c.c)), 0)
  else (goP r (nextP r), 0)

theorem put_go {r : List Nat} {a : Int} (ha : 0 ≤ a ∧ a < 16) (v x : Nat) : putP (goP r x) a v = goP (putP r a v) x := by
  unfold goP putP
  rw [List.set_comm _ _ (by omega)]

theorem goP_goP (r : List Nat) (x y : Nat) : goP (goP r x) y = goP r y := by
  unfold goP putP
  rw [List.set_set]

theorem rWay {n : Int} {x : Nat} {K : Value → Prop} (hx : x < 18446744073709551616) (h1 : -32768 ≤ n) (h2 : n < 65536) (hn : n < 0) (k : K (ut (((x : Int) + 4 * n) % 18446744073709551616).toNat)) :
    vBin (.int .i64) .mul (it (-4)) (it n) fun v40 => vConv (.int .u64) v40 fun v41 => vBin (.int .u64) .sub (ut x) v41 K := by
  refine ⟨rfl, rCv ?_⟩
  rw [wrap_id (by omega) (by omega), wrap_u64m]
  refine ⟨rfl, ?_⟩
  rw [wrap_u64m]
  have e : ((x : Int) - -4 * n % 18446744073709551616) % 18446744073709551616 = (((((x : Int) + 4 * n) % 18446744073709551616).toNat : Nat) : Int) := by omega
  rw [e]
  exact k

end Go.Proofs.YtmaecpbkbkncgaaDoor
