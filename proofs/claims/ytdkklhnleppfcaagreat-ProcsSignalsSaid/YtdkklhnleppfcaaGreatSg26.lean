/-
  procs.parse: a table's bytes are its processes. Own work.
-/
import Derived.Test.YtdkklhnleppfcaaGreatSg07
import Derived.Test.YtdkklhnleppfcaaGreatSg14
import Derived.Test.YtdkklhnleppfcaaGreatSg15
import Derived.Test.YtdkklhnleppfcaaGreatSg16
import Derived.Test.YtdkklhnleppfcaaGreatSg25
set_option linter.unusedVariables false
set_option linter.unusedSimpArgs false

set_option linter.unusedVariables false
set_option linter.unusedSimpArgs false
set_option maxRecDepth 100000
namespace Go.Proofs.YtdkklhnleppfcaaGreat
open Go Go.V Go.X Go.RowKit

def As.dfr (b : Nat) : As := ⟨fun k => k = b, fun w => w.heap[b]? = some (.deferred (some [])), fun w h k e => by subst e; exact lt_of_blk h, fun w w' F h f hn => f.get h (hn b rfl)⟩
def As.lp (b : Nat) (r : Loop) : As := ⟨fun k => k = b, fun w => w.heap[b]? = some (.loop r), fun w h k e => by subst e; exact lt_of_blk h, fun w w' F h f hn => f.get h (hn b rfl)⟩

section
variable {F : Nat → Prop} {w0 w : World} {L : List As}

theorem Lx.alloc (h : Lx F w0 w L) (o : Obj) {A : As} (hA : A.holds (w.alloc o)) (hf : ∀ k, A.foot k → k = w.heap.size) : Lx F w0 (w.alloc o) (A :: L) :=
  h.add ((Fr.refl _ w).alloc o) hA fun k hk => by rw [hf k hk]; exact Nat.le_refl _

theorem Lx.lput (h : Lx F w0 w L) {i b : Nat} {r : Loop} (hi : L[i]? = some (As.lp b r)) (r' : Loop) : Lx F w0 (w.putObj b (.loop r')) (L.set i (As.lp b r')) := by
  have hb : w.heap[b]? = some (.loop r) := h.get hi
  exact h.step (a' := As.lp b r') hi ((Fr.refl _ w).put _ fun _ => rfl) (World.putObj_heap_same (lt_of_blk hb)) (fun k e => .inl e)

theorem cuthi {m n hi : Nat} {v : Value} {cs : List Value} {bl : Option Nat} {kd : IntKind} {K : Value → Prop} (h : RowW m w v n cs bl) (hh : hi ≤ n) (k : ∀ v', RowW m w v' hi (cs.take (hi * m)) bl → K v') : vSlice (.slice m) v none (some (.int kd hi)) K := by
  have hl := h.1
  have hhm : hi * m ≤ n * m := Nat.mul_le_mul_right _ hh
  have hlen : (cs.take (hi * m)).length = hi * m := by rw [List.length_take, hl]; omega
  cases bl with
  | none =>
    obtain ⟨_, rfl, rfl⟩ := h
    have : hi = 0 := by omega
    subst this
    refine ⟨by omega, by omega, ?_⟩
    exact k _ ⟨by simp, rfl, rfl⟩
  | some l =>
    obtain ⟨_, off, c, pre, rest, rfl, h2, h3, h4, h5, h6⟩ := h
    refine ⟨by omega, by omega, ?_⟩
    show K _
    have e : (if c = 0 then some (⟨l, off, none⟩ : Addr) else (some (⟨l, off, none⟩ : Addr)).map (·.add (0 * m))) = some ⟨l, off, none⟩ := by
      split
      · rfl
      · simp only [Option.map_some, addr_add, Nat.zero_mul, Nat.add_zero]
    simp only [Int.toNat_natCast] at *
    rw [e]
    refine k _ ⟨hlen, off, c, pre, cs.drop (hi * m) ++ rest, rfl, ?_, by omega, ?_, h5, h6⟩
    · have : pre ++ cs.take (hi * m) ++ (cs.drop (hi * m) ++ rest) = pre ++ cs ++ rest := by
        conv => rhs; rw [← List.take_append_drop (hi * m) cs]
        simp only [List.append_assoc]
      rw [this]; exact h2
    · rw [List.length_append, List.length_drop, hl]; omega

theorem flat_spl {m : Nat} : ∀ {R : List (List Value)} {i : Nat} {x : List Value}, (∀ r ∈ R, r.length = m) → i < R.length → x.length = m → spl R.flatten (i * m) x = (R.set i x).flatten
  | [], i, x, _, hi, _ => by simp at hi
  | r :: R, 0, x, h, hi, hx => by
    have hr := h r (by simp)
    simp [spl, hx, ← hr]
  | r :: R, i + 1, x, h, hi, hx => by
    have hr := h r (by simp)
    have ih := flat_spl (R := R) (i := i) (x := x) (fun y hy => h y (by simp [hy])) (by simpa using hi) hx
    rw [List.flatten_cons, List.set_cons_succ, List.flatten_cons, ← ih]
    unfold spl
    have e1 : (i + 1) * m = r.length + i * m := by rw [hr, Nat.succ_mul, Nat.add_comm]
    rw [e1, List.take_append, List.drop_append]
    have e2 : (r.length + i * m - r.length) = i * m := by omega
    have e3 : (r.length + i * m + x.length - r.length) = i * m + x.length := by omega
    rw [e2, e3, List.take_of_length_le (by omega), List.drop_eq_nil_of_le (by omega)]
    simp [List.append_assoc]

theorem flat_set {m : Nat} : ∀ {R : List (List Value)} {i j : Nat} {r : List Value} {v : Value}, (∀ r ∈ R, r.length = m) → R[i]? = some r → j < m → R.flatten.set (i * m + j) v = (R.set i (r.set j v)).flatten
  | [], i, j, r, v, _, hi, _ => by simp at hi
  | a :: R, 0, j, r, v, h, hi, hj => by
    simp at hi; subst hi
    have hr := h a (by simp)
    rw [List.flatten_cons, List.set_cons_zero, List.flatten_cons, Nat.zero_mul, Nat.zero_add, List.set_append_left _ _ (by omega)]
  | a :: R, i + 1, j, r, v, h, hi, hj => by
    have hr := h a (by simp)
    have ih := flat_set (R := R) (i := i) (j := j) (r := r) (v := v) (fun y hy => h y (by simp [hy])) (by simpa using hi) hj
    rw [List.flatten_cons, List.set_cons_succ, List.flatten_cons, ← ih]
    have e1 : (i + 1) * m + j = a.length + (i * m + j) := by rw [hr, Nat.succ_mul]; omega
    rw [e1, List.set_append_right _ _ (by omega)]
    congr 2
    omega

def recC0 (r : Rec) : List Value := [it 0, it r.parent, it r.thread, it r.table, .bool r.ended, it r.status]
theorem b77x : (fun (a b c e : Int) (d : Bool) (K : Value → Prop) => vBuild Tryz.prog 77 [(2, it a), (1, it b), (3, it c), (4, .bool d), (5, it e)] K) = fun a b c e d K => ((1 : Nat) = 1 ∧ (1 : Nat) = 1 ∧ (1 : Nat) = 1 ∧ (1 : Nat) = 1 ∧ (1 : Nat) = 1 ∧ K (.agg #[it 0, it b, it a, it c, .bool d, it e])) := by kernel_rfl
theorem build77x {a b c e : Int} {d : Bool} {K : Value → Prop} (k : K (.agg #[it 0, it b, it a, it c, .bool d, it e])) : vBuild Tryz.prog 77 [(2, it a), (1, it b), (3, it c), (4, .bool d), (5, it e)] K := by
  have := congrFun (congrFun (congrFun (congrFun (congrFun (congrFun b77x a) b) c) e) d) K
  exact this ▸ ⟨rfl, rfl, rfl, rfl, rfl, k⟩
theorem zc77' : zc Tryz.prog 77 = some #[it 0, it 0, it 0, it 0, .bool false, it 0] := by kernel_rfl
theorem rec_one (a b c d f : Int) (e : Bool) : ∀ x ∈ (#[it a, it b, it c, it d, .bool e, it f] : Array Value).toList, x.oneCell' = true := by
  intro x hx
  simp at hx
  rcases hx with rfl | rfl | rfl | rfl | rfl | rfl <;> rfl

theorem from_spec {v : Value} {r : Rec} {bl : Option Nat} {K : Value → World → Prop} (h : Lx F w0 w L) (hv : RowW 1 w v 5 (r.nums.map it) bl) (k : ∀ w', Lx F w0 w' L → K (.agg (recC0 r).toArray) w') : CallK Tryz.prog 183 #[v] w K := by
  apply Ret.call
  apply F183_ok
  unfold F183
  unfold vAlloc
  rw [zc77']
  have hr : RowW 1 (w.alloc (.cells #[it 0, it 0, it 0, it 0, .bool false, it 0] 77)) v 5 (r.nums.map it) bl := hv.more ((Fr.refl _ w).alloc _)
  have h : Lx F w0 (w.alloc (.cells #[it 0, it 0, it 0, it 0, .bool false, it 0] 77)) (.blk w.heap.size [it 0, it 0, it 0, it 0, .bool false, it 0] :: L) := h.add (a := .blk w.heap.size _) ((Fr.refl _ w).alloc _) (Cs.new' w _ 77) (fun k e => by rw [show k = w.heap.size from e]; exact Nat.le_refl _)
  refine ⟨fun W => Lx F w0 W (.blk w.heap.size [it 0, it 0, it 0, it 0, .bool false, it 0] :: L) ∧ RowW 1 W v 5 (r.nums.map it) bl, ⟨h.drew, hr⟩, ?_⟩
  refine hr.rd1S (fun W hW => hW.2) (i := 0) (x := it r.thread) rfl ?_
  refine hr.rd1S (fun W hW => hW.2) (i := 1) (x := it r.parent) rfl ?_
  refine hr.rd1S (fun W hW => hW.2) (i := 2) (x := it r.table) rfl ?_
  refine hr.rd1S (fun W hW => hW.2) (i := 3) (x := it (if r.ended = true then 1 else 0)) rfl ?_
  refine rEq ?_
  refine hr.rd1S (fun W hW => hW.2) (i := 4) (x := it r.status) rfl ?_
  have e : ((if r.ended = true then (1 : Int) else 0) == 1) = r.ended := by cases r.ended <;> rfl
  rw [e]
  refine build77x ?_
  refine ⟨?_, trivial⟩
  refine sStN h.drew (i := 0) rfl rfl (by simp) (rec_one _ _ _ _ _ _) (fun w2 h => ?_)
  refine sLdN h (i := 0) rfl rfl ?_
  exact k w2 (h.sub (List.sublist_cons_self _ _))

end

end Go.Proofs.YtdkklhnleppfcaaGreat

/-
  procs.parse: a table's bytes are its processes; the walk. Own work.
-/
set_option linter.unusedVariables false
set_option linter.unusedSimpArgs false
set_option maxRecDepth 100000
namespace Go.Proofs.YtdkklhnleppfcaaGreat
open Go Go.V Go.X Go.RowKit

def zrec : List Value := [it 0, it 0, it 0, it 0, .bool false, it 0]
def tabZ : List Value := (List.replicate 32 zrec).flatten
def rowsAt (rs : List Rec) (i : Nat) : List (List Value) := (rs.take i).map recC0 ++ List.replicate (32 - i) zrec
def rowsP (rs : List Rec) (i : Nat) : List (List Value) := rs.mapIdx fun j r => if j < i then recC j r else recC0 r

theorem b310 : (fun (K : Value → Prop) => vBuild Tryz.prog 310 [] K) = fun K => K (.agg tabZ.toArray) := by kernel_rfl
theorem build310 {K : Value → Prop} (k : K (.agg tabZ.toArray)) : vBuild Tryz.prog 310 [] K := by
  have := congrFun b310 K
  exact this ▸ k
theorem zc137 : zc Tryz.prog 137 = some #[.pointer none] := by kernel_rfl
def rowsV : Array Value := #[it 5, .func (.func 183) #[] #[], .func (.func 184) #[] #[]]
theorem zc230 : zc Tryz.prog 230 = some #[it 0, .nilFunc, .nilFunc] := by kernel_rfl
theorem b230 : (fun (K : Value → Prop) => vBuild Tryz.prog 230 [(0, it 5), (1, .func (.func 183) #[] #[]), (2, .func (.func 184) #[] #[])] K) = fun K => ((1 : Nat) = 1 ∧ (1 : Nat) = 1 ∧ (1 : Nat) = 1 ∧ K (.agg rowsV)) := by kernel_rfl
theorem build230 {K : Value → Prop} (k : K (.agg rowsV)) : vBuild Tryz.prog 230 [(0, it 5), (1, .func (.func 183) #[] #[]), (2, .func (.func 184) #[] #[])] K := by
  have := congrFun b230 K
  exact this ▸ ⟨rfl, rfl, rfl, k⟩

theorem recC0_one (r : Rec) : ∀ x ∈ recC0 r, x.oneCell' = true := by
  intro x hx
  simp [recC0] at hx
  rcases hx with rfl | rfl | rfl | rfl | rfl | rfl <;> rfl
theorem rowsAt_len {rs : List Rec} (h : rs.length = 32) {i : Nat} (hi : i ≤ 32) : (rowsAt rs i).length = 32 := by
  unfold rowsAt
  rw [List.length_append, List.length_map, List.length_take, List.length_replicate, h]; omega
theorem rowsAt_six {rs : List Rec} {i : Nat} : ∀ r ∈ rowsAt rs i, r.length = 6 := by
  intro r hr
  unfold rowsAt at hr
  rcases List.mem_append.1 hr with hr | hr
  · obtain ⟨x, _, rfl⟩ := List.mem_map.1 hr; rfl
  · rw [(List.mem_replicate.1 hr).2]; rfl
theorem rowsAt_set {rs : List Rec} (h : rs.length = 32) {i : Nat} {r : Rec} (hr : rs[i]? = some r) : (rowsAt rs i).set i (recC0 r) = rowsAt rs (i + 1) := by
  have hi := (List.getElem?_eq_some_iff.1 hr).1
  unfold rowsAt
  have e1 : ((rs.take i).map recC0).length = i := by rw [List.length_map, List.length_take]; omega
  rw [List.set_append_right _ _ (by omega), e1, Nat.sub_self]
  have e2 : 32 - i = (32 - (i + 1)) + 1 := by omega
  rw [e2, List.replicate_succ, List.set_cons_zero, List.take_add_one, hr]
  simp
theorem rowsAt_all {rs : List Rec} (h : rs.length = 32) : rowsAt rs 32 = rowsP rs 0 := by
  unfold rowsAt rowsP
  rw [List.take_of_length_le (by omega)]
  apply List.ext_getElem?
  intro j
  simp [List.getElem?_mapIdx]
theorem rowsP_six {rs : List Rec} {i : Nat} : ∀ r ∈ rowsP rs i, r.length = 6 := by
  intro r hr
  unfold rowsP at hr
  obtain ⟨j, hj, rfl⟩ := List.mem_mapIdx.1 hr
  split <;> rfl
theorem rowsP_at {rs : List Rec} {i : Nat} {r : Rec} (hr : rs[i]? = some r) : (rowsP rs i)[i]? = some (recC0 r) := by
  unfold rowsP
  rw [List.getElem?_mapIdx, hr]
  simp
theorem rowsP_set {rs : List Rec} {i : Nat} {r : Rec} (hr : rs[i]? = some r) : (rowsP rs i).set i ((recC0 r).set 0 (it (i + 1 : Nat))) = rowsP rs (i + 1) := by
  unfold rowsP
  apply List.ext_getElem?
  intro j
  rw [List.getElem?_set, List.getElem?_mapIdx, List.getElem?_mapIdx]
  by_cases e : i = j
  · subst e
    obtain ⟨hi, rfl⟩ := List.getElem?_eq_some_iff.1 hr
    simp [hi, recC0, recC]
  · rw [if_neg e]
    cases hj : rs[j]? with
    | none => rfl
    | some x =>
      simp only [Option.map_some, Option.some.injEq]
      by_cases h1 : j < i
      · rw [if_pos h1, if_pos (by omega)]
      · rw [if_neg h1, if_neg (by omega)]

def tabR (rs : List Rec) : List Value := (rowsP rs 32).flatten

section
variable {F : Nat → Prop} {w0 w : World} {L : List As}

theorem rows_spec {K : Value → World → Prop} (h : Lx F w0 w L) (k : ∀ w', Lx F w0 w' L → K (.agg rowsV) w') : CallK Tryz.prog 110 #[] w K := by
  apply Ret.call
  apply F110_ok
  unfold F110
  refine sAlloc zc230 h (fun w1 b h => ?_)
  refine build230 ?_
  refine sStN h (i := 0) rfl rfl (by simp) (by intro x hx; simp [rowsV] at hx; rcases hx with rfl | rfl | rfl <;> rfl) (fun w2 h => ?_)
  refine sLdN h (i := 0) rfl (by simp [spl, rowsV]) ?_
  have := k w2 (h.sub (List.sublist_cons_self _ _))
  exact this

theorem row_rw {v : Value} {xs : List Value} {b : Nat} {W : World} (h : Go.V.Row W v xs (some b)) : RowW 1 W v xs.length xs (some b) := by
  obtain ⟨r, h1, h2⟩ := h
  exact ⟨by simp, 0, xs.length + r.length, [], r, h1, by simpa using h2, by omega, by omega, .inr rfl, Nat.le_refl _⟩

theorem parse_spec {rs : List Rec} {K : Value → World → Prop} (h : Lx F w0 w L) (hlen : rs.length = 32) (hfine : ∀ r ∈ rs, r.fine) (k : ∀ w' p, Lx F w0 w' (.blk p (tabR rs) :: L) → K (pt p 0) w') : CallK Tryz.prog 85 #[str (tabTxt rs)] w K := by
  apply Ret.call
  apply F85_ok
  unfold F85
  refine build310 ?_
  refine sBox h (fun w1 p h => ?_)
  refine sAlloc zc137 h (fun w2 v3 h => ?_)
  refine sSt h (i := 0) rfl (by simp) rfl (by simp) (fun w3 h => ?_)
  refine rows_spec h (fun w4 h => ?_)
  apply Ret.call
  apply F160_ok
  unfold F160
  refine sBox h (fun w5 b2 h => ?_)
  refine sBox1 rfl h (fun w6 b3 h => ?_)
  have h : Lx F w0 w6 (.blk b3 [str (tabTxt rs)] :: .blk b2 rowsV.toList :: .blk v3 [pt p 0] :: .blk p tabZ :: L) := h
  intro rec ρb hrs hrp hsel hround
  simp only [List.map_cons, List.map_nil, List.cons.injEq, and_true] at hsel
  have h1 := Lx.alloc h (.deferred (some [])) (A := As.dfr w6.heap.size) (World.alloc_heap_new _ _) (fun k e => e)
  have h2 := Lx.alloc h1 (.loop rec) (A := As.lp (w6.alloc (.deferred (some []))).heap.size rec) (World.alloc_heap_new _ _) (fun k e => e)
  have hsz : (w6.alloc (.deferred (some []))).heap.size = w6.heap.size + 1 := by simp
  rw [hsz] at h2
  generalize hl : w6.heap.size + 1 = l at *
  generalize hD : w6.heap.size = D at *
  generalize (w6.alloc (.deferred (some []))).alloc (.loop rec) = w7 at *
  have hrec : ({ rec with state := .ready, pending := none } : Loop) = rec := by
    cases rec; simp only at hrs hrp; subst hrs hrp; rfl
  show Ret Tryz.prog 234 #[.func (.yield l) #[] #[], pt b3 0, pt b2 0] w7 _
  apply F234_ok
  unfold F234
  refine sLd h2 (i := 2) rfl (v := str (tabTxt rs)) rfl ?_
  have htl := tabTxt_len rs
  refine list_ok (tabTxt rs) w7 _ (by omega) (by omega) (fun w8 v b hr hb f => ?_)
  have hnl := numsOf_len rs
  have e8 : (tabTxt rs).length / 8 = (numsOf rs).length := by omega
  rw [e8, show tabTxt rs = txt (numsOf rs) from rfl, leInts_txt _ (nums_fine hfine)] at hr
  have h3 := h2.newRw (m := 1) (row_rw hr) (fun q e => by cases e; exact hb) f
  refine ⟨fun vs ds W => ds = [] ∧ ∃ (i : Nat) (v' : Value), i ≤ 32 ∧ vs = [.func (.yield l) #[] #[], pt b2 0, v', it i] ∧
      Lx F w0 W (.rw 1 v' (numsOf (rs.drop i)).length ((numsOf (rs.drop i)).map it) (some b) :: As.lp l rec :: As.dfr D :: .blk b3 [str (tabTxt rs)] :: .blk b2 rowsV.toList :: .blk v3 [pt p 0] :: .blk p (rowsAt rs i).flatten :: L),
    fun vs _ _ => match vs with | [_, _, _, .int _ i] => 33 - i.toNat | _ => 0, ⟨rfl, 0, v, by omega, rfl, ?_⟩, ?_⟩
  · have e1 : (rowsAt rs 0).flatten = tabZ := by unfold rowsAt tabZ; simp
    rw [e1]
    have e2 : (List.map (fun n => Value.int .i64 n) (numsOf rs)).length = (numsOf rs).length := by simp
    rw [e2] at h3
    exact h3
  · rintro ρ ds W ⟨rfl, i, v', hi, hρ, h⟩
    rw [hρ]
    simp only [List.map_cons, List.map_nil, List.cons.injEq, and_true] at hρ
    obtain ⟨e0, e2, e4, e5⟩ := hρ
    unfold F234L1
    simp only [e0, e2, e4, e5]
    refine (h.rw (i := 0) rfl).lenE ?_
    refine rFA0 (sLd h (i := 4) rfl (v := it 5) rfl ?_)
    have hnl2 := numsOf_len (rs.drop i)
    rw [List.length_drop] at hnl2
    refine rGe (sIfD (fun hge => ?_) (fun hlt => ?_))
    · have hi32 : i < 32 := by omega
      obtain ⟨r, hr⟩ : ∃ r, rs[i]? = some r := ⟨_, List.getElem?_eq_getElem (by omega)⟩
      have hnums : numsOf (rs.drop i) = r.nums ++ numsOf (rs.drop (i + 1)) := by
        have : rs.drop i = r :: rs.drop (i + 1) := by
          rw [List.drop_eq_getElem_cons (by omega)]
          congr 1
          rw [List.getElem?_eq_getElem (by omega)] at hr
          exact Option.some.inj hr
        rw [this]; rfl
      refine ⟨fun W => Cs W b2 rowsV.toList, h.drew.get (i := 4) rfl, ?_⟩
      refine rFA0 (rLdI (cs := rowsV.toList) (fun W hW => hW) (v := .func (.func 183) #[] #[]) rfl ?_)
      refine rFA0 (rLdI (cs := rowsV.toList) (fun W hW => hW) (v := it 5) rfl ?_)
      refine cuthi (hi := 5) (h.rw (i := 0) rfl) (by omega) (fun v22 h22 => ?_)
      refine ⟨?_, trivial⟩
      have h22' : RowW 1 W.drew v22 5 (r.nums.map it) (some b) := by
        have e : ((numsOf (rs.drop i)).map it).take (5 * 1) = r.nums.map it := by
          rw [hnums, List.map_append]
          exact List.take_left' (by simp [Rec.nums])
        rw [e] at h22
        exact h22
      show CallK Tryz.prog 183 #[v22] W.drew _
      refine from_spec h.drew h22' (fun w9 h => ⟨h.get (i := 4) rfl, ?_, trivial⟩)
      show Round Tryz.prog l #[it i, .agg (recC0 r).toArray] w9 _
      refine hround [it i, .agg (recC0 r).toArray] w9 _ ?_
      refine ⟨rfl, h.get (i := 1) rfl, ?_⟩
      unfold F85R1a
      refine sAlloc zc77' h (fun w10 b5 h => ?_)
      refine sStN h (i := 0) (vs := (recC0 r).toArray) rfl rfl (by simp [recC0]) (by simpa using recC0_one r) (fun w11 h => ?_)
      refine ⟨rfl, rfl, h.get (i := 2) rfl, ?_⟩
      unfold F85R1b
      have h := Lx.lput h (i := 2) rfl { rec with state := .busy }
      refine rLt (a := i) (b := 32) (rBool ?_)
      rw [if_pos (by simp; omega)]
      have hR := rowsAt_len hlen (i := i) (by omega)
      have hcells : (rowsAt rs i).flatten.length = 192 := by rw [flat_len rowsAt_six, hR]
      refine ⟨fun W => Cs W v3 [pt p 0] ∧ Cs W b5 (recC0 r), ⟨h.drew.get (i := 6) rfl, h.drew.get (i := 0) rfl⟩, ?_⟩
      show vLdS _ .one (ρb 3) _
      rw [hsel]
      refine rLdI (fun W hW => hW.1) (v := pt p 0) rfl ?_
      refine rLdIN (o := 0) (cs := recC0 r) (xs := recC0 r) (fun W hW => hW.2) rfl (by intro j x hj; rw [Nat.zero_add]; exact hj) ?_
      refine rNil ?_
      refine rIAa (i := i) hi32 ?_
      refine ⟨?_, trivial⟩
      refine sStN h.drew (i := 7) rfl rfl (by rw [hcells]; omega) (by simpa using recC0_one r) (fun w12 h => ?_)
      refine ⟨h.get (i := 2) rfl, ?_⟩
      have h := Lx.lput h (i := 2) rfl rec
      show _ ∧ _
      simp only [Option.isNone_none, if_true]
      rw [hrec]
      refine ⟨h.get (i := 5) rfl, rNot (rIfF ?_)⟩
      have h : Lx F w0 (w12.putObj l (.loop rec)) (.blk b5 (recC0 r) :: .rw 1 v' (numsOf (rs.drop i)).length ((numsOf (rs.drop i)).map it) (some b) :: As.lp l rec :: As.dfr D :: .blk b3 [str (tabTxt rs)] :: .blk b2 rowsV.toList :: .blk v3 [pt p 0] :: .blk p (spl (rowsAt rs i).flatten (0 + i * 6) (recC0 r)) :: L) := h
      rw [Nat.zero_add, flat_spl rowsAt_six (by omega) rfl, rowsAt_set hlen hr] at h
      refine rFA0 (sLd h (i := 5) rfl (v := it 5) rfl ?_)
      refine RowW.cutlo (lo := 5) (h.rw (i := 1) rfl) (by omega) (fun v29 h29 => ?_)
      refine rAdd (by omega) (by omega) ?_
      have e1 : ((i : Int) + 1) = ((i + 1 : Nat) : Int) := by omega
      rw [e1]
      have e29 : ((numsOf (rs.drop i)).map it).drop (5 * 1) = (numsOf (rs.drop (i + 1))).map it := by
        rw [hnums, List.map_append]
        exact List.drop_left' (by simp [Rec.nums])
      have el : (numsOf (rs.drop i)).length - 5 = (numsOf (rs.drop (i + 1))).length := by rw [hnums]; simp [Rec.nums]
      rw [e29, el] at h29
      have h := h.step (i := 1) (a' := .rw 1 v29 (numsOf (rs.drop (i + 1))).length ((numsOf (rs.drop (i + 1))).map it) (some b)) rfl (Fr.refl _ _) h29 (fun k e => .inl e)
      refine ⟨⟨by trivial, i + 1, v29, by omega, by trivial, h.sub (List.sublist_cons_self _ _)⟩, ?_⟩
      show 33 - (i + 1) < 33 - i
      omega
    · have hi32 : i = 32 := by omega
      subst hi32
      unfold leaveV
      refine ⟨rec.state, rec.pending, h.get (i := 1) rfl, by rw [hrs]; simp, ?_⟩
      rw [hrp]
      have h := Lx.lput h (i := 1) rfl { rec with state := .exhausted, pending := none }
      rw [rowsAt_all hlen] at h
      refine ⟨fun vs ds W => ds = [D] ∧ ∃ (i : Nat), i ≤ 32 ∧ vs = [pt v3 0, it i] ∧ Lx F w0 W (As.dfr D :: .blk v3 [pt p 0] :: .blk p (rowsP rs i).flatten :: L),
        fun vs _ _ => match vs with | [_, .int _ i] => 33 - i.toNat | _ => 0, ⟨rfl, 0, by omega, rfl, ?_⟩, ?_⟩
      · exact h.sub (.cons _ (.cons _ (.cons_cons _ (.cons _ (.cons _ (List.Sublist.refl _))))))
      · rintro ρ ds W ⟨rfl, i, hi, hρ, h⟩
        rw [hρ]
        simp only [List.map_cons, List.map_nil, List.cons.injEq, and_true] at hρ
        obtain ⟨e3, e21⟩ := hρ
        unfold F85L1
        simp only [e3, e21]
        refine rLt <| sIfD (fun hlt => ?_) (fun hge => ?_)
        · have hlt : i < 32 := by omega
          obtain ⟨r, hr⟩ : ∃ r, rs[i]? = some r := ⟨_, List.getElem?_eq_getElem (by omega)⟩
          refine sLd h (i := 1) rfl (v := pt p 0) rfl ?_
          refine rAdd (by omega) (by omega) ?_
          refine rNil ?_
          refine rIAa (i := i) hlt ?_
          refine rFA ?_
          have hPl : (rowsP rs i).length = 32 := by unfold rowsP; simp [hlen]
          have hcells : (rowsP rs i).flatten.length = 192 := by rw [flat_len rowsP_six, hPl]
          refine sSt h (i := 2) rfl (by rw [hcells]; omega) rfl (by simp) (fun w9 h => ?_)
          refine rAdd (by omega) (by omega) ?_
          have e1 : ((i : Int) + 1) = ((i + 1 : Nat) : Int) := by omega
          have h : Lx F w0 w9 (As.dfr D :: .blk v3 [pt p 0] :: .blk p ((rowsP rs i).flatten.set (0 + i * 6 + 0) (it ((i : Int) + 1))) :: L) := h
          rw [Nat.zero_add, e1, flat_set rowsP_six (rowsP_at hr) (by omega), rowsP_set hr] at h
          rw [e1]
          refine ⟨⟨by trivial, i + 1, by omega, by trivial, h⟩, ?_⟩
          show 33 - (i + 1) < 33 - i
          omega
        · have hi : i = 32 := by omega
          subst hi
          refine sLd h (i := 1) rfl (v := pt p 0) rfl ?_
          have hd : W.heap[D]? = some (.deferred (some [])) := h.get (i := 0) rfl
          unfold leaveV
          refine ⟨hd, ?_⟩
          unfold leaveV
          have h := h.step (i := 0) (a' := .emp) (w' := W.putObj D (.deferred none)) rfl ((Fr.refl _ W).put _ fun _ => rfl) trivial (fun k e => e.elim)
          exact k _ p (h.sub (.cons _ (.cons _ (List.Sublist.refl _))))

end

end Go.Proofs.YtdkklhnleppfcaaGreat

/-
  The kernel's calls, whole: Write, Read, Post, Take. Own work.
-/
set_option linter.unusedVariables false
set_option linter.unusedSimpArgs false
set_option maxRecDepth 100000
namespace Go.Proofs.YtdkklhnleppfcaaGreat
open Go Go.V Go.X Go.RowKit

section
variable {F : Nat → Prop} {w0 w : World} {L : List As} {g : KG} {κ : KP}

def toldV (t : ToldP) : Value := .agg (toldC t).toArray
def cWrite (r : Int × Int) (a : Int) (s : List UInt8) : CallP := ⟨15, r.1, r.2, 0, 0, a, 0, 0, 0, 0, s⟩
def cRead (r : Int × Int) (a b : Int) : CallP := ⟨14, r.1, r.2, 0, 0, a, b, 0, 0, 0, []⟩
def cPost (r : Int × Int) (a : Int) : CallP := ⟨24, r.1, r.2, 0, 0, a, 0, 0, 0, 0, []⟩
def cTake : CallP := ⟨25, 0, 0, 0, 0, 0, 0, 0, 0, 0, []⟩
def callV (x : CallP) : Value := .agg (callC x).toArray

theorem kdo_write {me draw : Int} {r : Int × Int} {a : Int} {s : List UInt8} {K : Value → World → Prop} (h : Lx F w0 w L) {i : Nat} (hi : L[i]? = some (As.kern g κ)) (wf : κ.Wf) (hm : g.mine κ me) (hb : KP.boxed κ r.1) (ha1 : -9223372036854775808 ≤ a) (ha2 : a < 9223372036854775808)
    (kdead : κ.runs me = false → ∀ w', Lx F w0 w' L → K (.tuple #[toldV toldZ, it 11]) w')
    (k : κ.runs me = true → ∀ w' HG, Lx F w0 w' (L.set i (As.kern { g with HG := HG } (κ.write r a s).2)) → K (.tuple #[toldV toldZ, it (κ.write r a s).1]) w') : CallK Tryz.prog 18 #[pt g.kb 0, it me, callV (cWrite r a s), it draw] w K := by
  refine do_15 (x := cWrite r a s) h hi rfl wf hm kdead (fun hr w1 b b8 b6 h => ?_)
  refine cells_write h (i := i + 2) (by simpa using hi) rfl wf hb ha1 ha2 (fun w2 HG h => ?_)
  have h : Lx F w0 w2 (.blk b (askC g (cWrite r a s) me draw toldZ) :: .blk b8 (toldC toldZ) :: .blk b6 (callC (cWrite r a s)) :: L.set i (As.kern { g with HG := HG } (κ.write r a s).2)) := h
  refine do_tail h (fun he w3 h => ?_) (fun he w3 h => ?_)
  · have := k hr w3 HG h
    rw [show (κ.write r a s).1 = 0 from he] at this; exact this
  · exact k hr w3 HG h

theorem kdo_read {me draw : Int} {r : Int × Int} {a n : Int} {K : Value → World → Prop} (h : Lx F w0 w L) {i : Nat} (hi : L[i]? = some (As.kern g κ)) (wf : κ.Wf) (hm : g.mine κ me) (hb : KP.boxed κ r.1) (ha1 : -9223372036854775808 ≤ a) (ha2 : a < 9223372036854775808)
    (kdead : κ.runs me = false → ∀ w', Lx F w0 w' L → K (.tuple #[toldV toldZ, it 11]) w')
    (k1 : κ.runs me = true → (κ.read r a n).1 = 0 → ∀ w', Lx F w0 w' L → K (.tuple #[toldV { toldZ with s := (κ.read r a n).2 }, it 0]) w')
    (k2 : κ.runs me = true → (κ.read r a n).1 ≠ 0 → ∀ w', Lx F w0 w' L → K (.tuple #[toldV toldZ, it (κ.read r a n).1]) w') : CallK Tryz.prog 18 #[pt g.kb 0, it me, callV (cRead r a n), it draw] w K := by
  refine do_14 (x := cRead r a n) h hi rfl wf hm kdead (fun hr w1 b b8 b6 h => ?_)
  refine cells_read h (i := i + 2) (by simpa using hi) rfl wf hb ha1 ha2 (fun w2 t' ht h => ?_)
  have h : Lx F w0 w2 (.blk b (askC g (cRead r a n) me draw t') :: .blk b8 (toldC toldZ) :: .blk b6 (callC (cRead r a n)) :: L) := h
  refine do_tail h (fun he w3 h => ?_) (fun he w3 h => ?_)
  · rw [ht he]
    exact k1 hr he w3 h
  · exact k2 hr he w3 h

theorem kdo_post {me draw : Int} {r : Int × Int} {a : Int} {K : Value → World → Prop} (h : Lx F w0 w L) {i : Nat} (hi : L[i]? = some (As.kern g κ)) (wf : κ.Wf) (hm : g.mine κ me) (hb : KP.boxed κ r.1) (hid : idB r.2 = true) (ha1 : 0 ≤ a) (ha2 : a ≤ 255) (htk : κ.tk r.2 = none)
    (kdead : κ.runs me = false → ∀ w', Lx F w0 w' L → K (.tuple #[toldV toldZ, it 11]) w')
    (k : κ.runs me = true → ∀ w' AG, Lx F w0 w' (L.set i (As.kern { g with AG := AG } (κ.post r a).2)) → K (.tuple #[toldV toldZ, it (κ.post r a).1]) w') : CallK Tryz.prog 18 #[pt g.kb 0, it me, callV (cPost r a), it draw] w K := by
  refine do_24 (x := cPost r a) h hi rfl wf hm kdead (fun hr w1 b b8 b6 h => ?_)
  refine threads_post h (i := i + 2) (by simpa using hi) rfl wf hb hid ha1 ha2 htk (fun w2 AG h => ?_)
  have h : Lx F w0 w2 (.blk b (askC g (cPost r a) me draw toldZ) :: .blk b8 (toldC toldZ) :: .blk b6 (callC (cPost r a)) :: L.set i (As.kern { g with AG := AG } (κ.post r a).2)) := h
  refine do_tail h (fun he w3 h => ?_) (fun he w3 h => ?_)
  · have := k hr w3 AG h
    rw [show (κ.post r a).1 = 0 from he] at this; exact this
  · exact k hr w3 AG h

theorem kdo_take {me draw : Int} {K : Value → World → Prop} (h : Lx F w0 w L) {i : Nat} (hi : L[i]? = some (As.kern g κ)) (wf : κ.Wf) (hm : g.mine κ me)
    (kdead : κ.runs me = false → ∀ w', Lx F w0 w' L → K (.tuple #[toldV toldZ, it 11]) w')
    (k : κ.runs me = true → ∀ w' AG, Lx F w0 w' (L.set i (As.kern { g with AG := AG } (κ.take me).2.2)) → K (.tuple #[toldV (if (κ.take me).1 = 0 then { toldZ with n := (κ.take me).2.1 } else toldZ), it (κ.take me).1]) w') : CallK Tryz.prog 18 #[pt g.kb 0, it me, callV cTake, it draw] w K := by
  refine do_25 (x := cTake) h hi rfl wf hm kdead (fun hr w1 b b8 b6 h => ?_)
  refine threads_take h (i := i + 2) (by simpa using hi) rfl (fun w2 AG h => ?_)
  have h : Lx F w0 w2 (.blk b (askC g cTake me draw (if (κ.take me).1 = 0 then { toldZ with n := (κ.take me).2.1 } else toldZ)) :: .blk b8 (toldC toldZ) :: .blk b6 (callC cTake) :: L.set i (As.kern { g with AG := AG } (κ.take me).2.2)) := h
  refine do_tail h (fun he w3 h => ?_) (fun he w3 h => ?_)
  · have := k hr w3 AG h
    rw [he] at this ⊢; exact this
  · have := k hr w3 AG h
    rw [if_neg he] at this
    exact this

theorem b60_15 : (fun (a b : Int) (K : Value → Prop) => vBuild Tryz.prog 60 [(0, it 15), (1, .agg #[it a, it b])] K) = fun a b K => ((1 : Nat) = 1 ∧ (2 : Nat) = 2 ∧ K (callV (cWrite (a, b) 0 []))) := by kernel_rfl
theorem build60_15 {a b : Int} {K : Value → Prop} (k : K (callV (cWrite (a, b) 0 []))) : vBuild Tryz.prog 60 [(0, it 15), (1, .agg #[it a, it b])] K := by
  have := congrFun (congrFun (congrFun b60_15 a) b) K
  exact this ▸ ⟨rfl, rfl, k⟩
theorem b60_14 : (fun (a b : Int) (K : Value → Prop) => vBuild Tryz.prog 60 [(0, it 14), (1, .agg #[it a, it b]), (4, it 1280)] K) = fun a b K => ((1 : Nat) = 1 ∧ (2 : Nat) = 2 ∧ (1 : Nat) = 1 ∧ K (callV (cRead (a, b) 0 1280))) := by kernel_rfl
theorem build60_14 {a b : Int} {K : Value → Prop} (k : K (callV (cRead (a, b) 0 1280))) : vBuild Tryz.prog 60 [(0, it 14), (1, .agg #[it a, it b]), (4, it 1280)] K := by
  have := congrFun (congrFun (congrFun b60_14 a) b) K
  exact this ▸ ⟨rfl, rfl, rfl, k⟩
theorem b60_24 : (fun (a b c : Int) (K : Value → Prop) => vBuild Tryz.prog 60 [(0, it 24), (1, .agg #[it a, it b]), (3, it c)] K) = fun a b c K => ((1 : Nat) = 1 ∧ (2 : Nat) = 2 ∧ (1 : Nat) = 1 ∧ K (callV (cPost (a, b) c))) := by kernel_rfl
theorem build60_24 {a b c : Int} {K : Value → Prop} (k : K (callV (cPost (a, b) c))) : vBuild Tryz.prog 60 [(0, it 24), (1, .agg #[it a, it b]), (3, it c)] K := by
  have := congrFun (congrFun (congrFun (congrFun b60_24 a) b) c) K
  exact this ▸ ⟨rfl, rfl, rfl, k⟩
theorem b60_25 : (fun (K : Value → Prop) => vBuild Tryz.prog 60 [(0, it 25)] K) = fun K => ((1 : Nat) = 1 ∧ K (callV cTake)) := by kernel_rfl
theorem build60_25 {K : Value → Prop} (k : K (callV cTake)) : vBuild Tryz.prog 60 [(0, it 25)] K := by
  have := congrFun b60_25 K
  exact this ▸ ⟨rfl, k⟩

end

structure PG where
  pb : Nat
  fb : Nat
  fv : Value
  home : Int
  id : Int
  tid : Int

def procsC (g : KG) (q : PG) : List Value := [pt g.kb 0, pt q.fb 0, it q.id]
def fdsC (g : KG) (q : PG) : List Value := [q.fv, pt g.kb 0, it q.home, it q.tid, it 2, nilS]
def procsL (g : KG) (κ : KP) (q : PG) : List As := [As.kern g κ, .blk q.pb (procsC g q), .blk q.fb (fdsC g q)]

structure PW (κ : KP) (q : PG) (rs : List Rec) : Prop where
  wf : κ.Wf
  home : ∃ o, κ.T q.home = some o ∧ o.kind = 1 ∧ q.id ∈ o.list
  tab : ∃ o, κ.T q.id = some o ∧ o.kind = 2
  bytes : κ.bytes q.id = tabTxt rs
  len : rs.length = 32
  fine : ∀ r ∈ rs, r.fine

theorem PW.boxed {κ : KP} {q : PG} {rs : List Rec} (h : PW κ q rs) : KP.boxed κ q.home := by
  obtain ⟨o, h1, h2, _⟩ := h.home
  exact ⟨o, h1, h2⟩
theorem PW.get {κ : KP} {q : PG} {rs : List Rec} (h : PW κ q rs) : κ.get (q.home, q.id) 2 = 0 := by
  obtain ⟨o, h1, h2, h3⟩ := h.home
  obtain ⟨o2, h4, h5⟩ := h.tab
  unfold KP.get KP.ref
  simp only [h1]
  rw [if_pos ⟨h2, h3⟩, h4]
  simp [h5]
theorem setBytes_self {κ : KP} {n : Int} {x : ThP} {l : List UInt8} (hx : κ.H n = some x) (hl : x.bytes = some l) : κ.setBytes n l = κ := by
  unfold KP.setBytes
  have : ({ x with bytes := some l } : ThP) = x := by cases x; simp only at hl; rw [hl]
  rw [hx]
  simp only [Option.map_some, this]
  rw [upF_id _ _ hx]
theorem PW.write0 {κ : KP} {q : PG} {rs : List Rec} (h : PW κ q rs) : κ.write (q.home, q.id) 0 [] = (0, κ) := by
  obtain ⟨o2, h4, h5⟩ := h.tab
  obtain ⟨x, l, h6, h7⟩ := h.wf.seg _ _ h4 h5
  have hb : κ.bytes q.id = l := by unfold KP.bytes; rw [h6]; simp [h7]
  unfold KP.write
  rw [if_neg (by simp [h.get]), if_pos (by simp [fitsB])]
  have : putB (κ.bytes q.id) 0 [] = l := by unfold putB; simp [hb]
  rw [this, setBytes_self h6 h7]
theorem PW.readAll {κ : KP} {q : PG} {rs : List Rec} (h : PW κ q rs) : κ.read (q.home, q.id) 0 1280 = (0, tabTxt rs) := by
  have hl := tabTxt_len rs
  rw [h.len] at hl
  unfold KP.read
  rw [if_neg (by simp [h.get]), h.bytes, if_pos (by simp [fitsB]; omega)]
  unfold cutB
  simp only [Int.toNat_zero, List.drop_zero]
  rw [List.take_of_length_le (by omega)]

end Go.Proofs.YtdkklhnleppfcaaGreat

/-
  procs.read: the table, and who asks. Own work.
-/
set_option linter.unusedVariables false
set_option linter.unusedSimpArgs false
set_option maxRecDepth 100000
namespace Go.Proofs.YtdkklhnleppfcaaGreat
open Go Go.V Go.X Go.RowKit

def meO (rs : List Rec) (t : Int) : Nat → Option (Nat × Rec)
  | 0 => none
  | k + 1 => match rs[k]? with
    | some r => if r.thread = t ∧ r.parent ≠ 0 ∧ r.ended = false then some (k, r) else meO rs t k
    | none => meO rs t k
def meC : Option (Nat × Rec) → List Value
  | none => zrec
  | some (i, r) => recC i r

theorem recC_one (i : Nat) (r : Rec) : ∀ x ∈ recC i r, x.oneCell' = true := by
  intro x hx
  simp [recC] at hx
  rcases hx with rfl | rfl | rfl | rfl | rfl | rfl <;> rfl
theorem meC_len (o : Option (Nat × Rec)) : (meC o).length = 6 := by cases o <;> rfl
theorem zrec_one : ∀ x ∈ zrec, x.oneCell' = true := by
  intro x hx
  simp [zrec] at hx
  rcases hx with rfl | rfl | rfl <;> rfl
theorem b77z : (fun (K : Value → Prop) => vBuild Tryz.prog 77 [] K) = fun K => K (.agg zrec.toArray) := by kernel_rfl
theorem build77z {K : Value → Prop} (k : K (.agg zrec.toArray)) : vBuild Tryz.prog 77 [] K := by
  have := congrFun b77z K
  exact this ▸ k
theorem zc77z : zc Tryz.prog 77 = some zrec.toArray := zc77'

theorem tabR_at {rs : List Rec} (hlen : rs.length = 32) {i : Nat} {r : Rec} (hr : rs[i]? = some r) : ((tabR rs).drop (i * 6)).take 6 = recC i r := by
  have h1 : (rowsP rs 32)[i]? = some (recC i r) := by
    unfold rowsP
    have hi := (List.getElem?_eq_some_iff.1 hr).1
    rw [List.getElem?_mapIdx, hr]
    simp; omega
  have := flat_get (m := 6) (xs := rowsP rs 32) [] rowsP_six h1
  rw [List.append_nil] at this
  exact this
theorem tabR_len {rs : List Rec} (hlen : rs.length = 32) : (tabR rs).length = 192 := by
  unfold tabR
  rw [flat_len rowsP_six]
  unfold rowsP
  simp [hlen]

def sayE (e : Int) : Int := if e = 0 ∨ e = 11 then e else if e = 3 ∨ e = 4 then 26 else if e = 6 ∨ e = 7 then 27 else 31

section
variable {F : Nat → Prop} {w0 w : World} {L R : List As} {g : KG} {κ : KP} {q : PG} {rs : List Rec}

theorem say_spec {e : Int} {K : Value → World → Prop} (k : K (it (sayE e)) w) : CallK Tryz.prog 51 #[it e] w K := by
  apply Ret.call
  apply F51_ok
  unfold F51
  have j3 : ∀ (ρ : Env) (b : Bool), e ≠ 0 → e ≠ 11 → (b = true ↔ e = 3 ∨ e = 4) → ρ 3 = it e → ρ 8 = .bool b → F51J3 K ρ [] w := by
    intro ρ b h0 h11 hb e3 e8
    unfold F51J3
    rw [e3, e8]
    cases b with
    | true =>
      refine rIfT ?_
      have : sayE e = 26 := by unfold sayE; rw [if_neg (by omega), if_pos (hb.1 rfl)]
      rw [this] at k
      exact k
    | false =>
      have hn : ¬ (e = 3 ∨ e = 4) := fun h => by have := hb.2 h; cases this
      refine rIfF ?_
      refine rEq (sIfE (fun h6 => ?_) (fun h6 => ?_))
      · have : sayE e = 27 := by unfold sayE; rw [if_neg (by omega), if_neg hn, if_pos (.inl h6)]
        rw [this] at k
        rw [h6]
        exact rIfT k
      · refine rEq (sIfE (fun h7 => ?_) (fun h7 => ?_))
        · have : sayE e = 27 := by unfold sayE; rw [if_neg (by omega), if_neg hn, if_pos (.inr h7)]
          rw [this] at k; exact k
        · have : sayE e = 31 := by unfold sayE; rw [if_neg (by omega), if_neg hn, if_neg (by omega)]
          rw [this] at k; exact k
  refine rEq (sIfE (fun h0 => ?_) (fun h0 => ?_))
  · have : sayE e = e := by unfold sayE; rw [if_pos (.inl h0)]
    rw [this] at k
    rw [h0] at k ⊢
    exact rIfT k
  · refine rEq (sIfE (fun h11 => ?_) (fun h11 => ?_))
    · have : sayE e = e := by unfold sayE; rw [if_pos (.inr h11)]
      rw [this] at k
      exact k
    · refine sJoin ?_
      refine rEq (sIfE (fun h3 => ?_) (fun h3 => ?_))
      · intro ρ hρ
        simp only [List.map_cons, List.map_nil, List.cons.injEq, and_true] at hρ
        exact j3 ρ true h0 h11 ⟨fun _ => .inl h3, fun _ => rfl⟩ hρ.1 (by rw [hρ.2, h3]; rfl)
      · refine rEq ?_
        intro ρ hρ
        simp only [List.map_cons, List.map_nil, List.cons.injEq, and_true] at hρ
        exact j3 ρ (e == 4) h0 h11 ⟨fun h => .inr (by simpa using h), fun h => by rcases h with h | h; exact absurd h h3; simpa using h⟩ hρ.1 hρ.2

theorem zc56 : zc Tryz.prog 56 = some #[it 0, it 0] := by kernel_rfl
theorem b56 : (fun (a b : Int) (K : Value → Prop) => vBuild Tryz.prog 56 [(0, it a), (1, it b)] K) = fun a b K => ((1 : Nat) = 1 ∧ (1 : Nat) = 1 ∧ K (.agg #[it a, it b])) := by kernel_rfl
theorem build56 {a b : Int} {K : Value → Prop} (k : K (.agg #[it a, it b])) : vBuild Tryz.prog 56 [(0, it a), (1, it b)] K := by
  have := congrFun (congrFun (congrFun b56 a) b) K
  exact this ▸ ⟨rfl, rfl, k⟩
theorem two_one (a b : Int) : ∀ x ∈ (#[it a, it b] : Array Value).toList, x.oneCell' = true := by
  intro x hx; simp at hx; rcases hx with rfl | rfl <;> rfl

theorem home_spec {n : Int} {K : Value → World → Prop} (h : Lx F w0 w L) (hp : ∀ W, Lx F w0 W L → Cs W q.pb (procsC g q)) (hf : ∀ W, Lx F w0 W L → Cs W q.fb (fdsC g q)) (k : ∀ w', Lx F w0 w' L → K (.agg #[it q.home, it n]) w') : CallK Tryz.prog 49 #[pt q.pb 0, it n] w K := by
  apply Ret.call
  apply F49_ok
  unfold F49
  refine sAlloc zc56 h (fun w1 b h => ?_)
  have h0 := dropHead (A := [_]) h
  refine rNil <| rFA0 <| rLd (hp _ h0) (v := pt q.fb 0) rfl ?_
  apply Ret.call
  apply F109_ok
  unfold F109
  refine rPNil' (rIfF <| rNil <| rFA0 <| rLd (hf _ h0) (v := it q.home) rfl ?_)
  refine build56 ?_
  refine sStN h (i := 0) rfl rfl (by simp) (two_one _ _) (fun w2 h => ?_)
  refine sLdN h (i := 0) rfl rfl ?_
  exact k w2 (dropHead (A := [_]) h)

theorem pread_loop {t d : Int} {p b3 b5 b12 : Nat} {K : Value → World → Prop} {W : World} (hlen : rs.length = 32) (h : Lx F w0 W (.blk b12 zrec :: .blk p (tabR rs) :: .blk b5 zrec :: .blk b3 [it t, it d] :: L))
    (k1 : ∀ i r, meO rs t 32 = some (i, r) → ∀ w', Lx F w0 w' (.blk p (tabR rs) :: L) → K (.tuple #[pt p 0, .agg (recC i r).toArray, it 0]) w')
    (k2 : meO rs t 32 = none → ∀ w', Lx F w0 w' L → K (.tuple #[.pointer none, .agg zrec.toArray, it 36]) w') :
    loopF [3, 5, 11, 12, 61, 63] [pt b3 0, pt b5 0, pt p 0, pt b12 0, pt p 0, it 0] [] W (F46L1 K) := by
  refine ⟨fun vs ds W => ds = [] ∧ ∃ (i : Nat), i ≤ 32 ∧ vs = [pt b3 0, pt b5 0, pt p 0, pt b12 0, pt p 0, it i] ∧ Lx F w0 W (.blk b12 (meC (meO rs t i)) :: .blk p (tabR rs) :: .blk b5 zrec :: .blk b3 [it t, it d] :: L),
    fun vs _ _ => match vs with | [_, _, _, _, _, .int _ i] => 33 - i.toNat | _ => 0, ⟨rfl, 0, by omega, rfl, h⟩, ?_⟩
  rintro ρ ds W ⟨rfl, i, hi, hρ, h⟩
  rw [hρ]
  simp only [List.map_cons, List.map_nil, List.cons.injEq, and_true] at hρ
  obtain ⟨e3, e5, e11, e12, e61, e63⟩ := hρ
  unfold F46L1
  simp only [e3, e5, e11, e12, e61, e63]
  refine rLt <| sIfD (fun hlt => ?_) (fun hge => ?_)
  · have hlt : i < 32 := by omega
    obtain ⟨r, hr⟩ : ∃ r, rs[i]? = some r := ⟨_, List.getElem?_eq_getElem (by omega)⟩
    have e1 : ((i : Int) + 1) = ((i + 1 : Nat) : Int) := by omega
    have hstep : meO rs t (i + 1) = if r.thread = t ∧ r.parent ≠ 0 ∧ r.ended = false then some (i, r) else meO rs t i := by
      rw [meO, hr]
    have mu : 33 - (i + 1) < 33 - i := by omega
    refine rNil ?_
    refine rIAa (i := i) hlt ?_
    rw [Nat.zero_add]
    refine rLdC (h.get (i := 1) rfl) (xs := recC i r) rfl (by rw [show (recC i r).length = 6 from rfl]; exact tabR_at hlen hr) (by rw [tabR_len hlen, show (recC i r).length = 6 from rfl]; omega) ?_
    refine sAlloc zc77z h (fun w1 b14 h => ?_)
    refine sStN h (i := 0) rfl rfl (by simp [zrec, recC]) (by simpa using recC_one i r) (fun w2 h => ?_)
    have h : Lx F w0 w2 (.blk b14 (recC i r) :: .blk b12 (meC (meO rs t i)) :: .blk p (tabR rs) :: .blk b5 zrec :: .blk b3 [it t, it d] :: L) := h
    have keep : ¬ (r.thread = t ∧ r.parent ≠ 0 ∧ r.ended = false) → Lx F w0 w2 (.blk b12 (meC (meO rs t (i + 1))) :: .blk p (tabR rs) :: .blk b5 zrec :: .blk b3 [it t, it d] :: L) := by
      intro hn
      rw [hstep, if_neg hn]
      exact dropHead (A := [_]) h
    refine rFA0 (sLd h (i := 0) rfl (v := it r.thread) rfl ?_)
    refine rFA0 (sLd h (i := 4) rfl (v := it t) rfl ?_)
    refine rEq (sIfE (fun ht => ?_) (fun ht => ?_))
    · refine rFA0 (sLd h (i := 0) rfl (v := it r.parent) rfl ?_)
      refine rNe (sIfNE (fun hp => ?_) (fun hp => ?_))
      · refine rFA0 (sLd h (i := 0) rfl (v := .bool r.ended) rfl ?_)
        refine rNot (sIf (fun he => ?_) (fun he => ?_))
        · have he : r.ended = false := by simpa using he
          refine sLdN h (i := 0) rfl rfl ?_
          refine sStN h (i := 1) rfl rfl (by simp [meC_len, recC]) (by simpa using recC_one i r) (fun w3 h => ?_)
          refine rAdd (by omega) (by omega) ?_
          rw [e1]
          refine ⟨⟨by trivial, i + 1, by omega, by trivial, ?_⟩, mu⟩
          rw [hstep, if_pos ⟨ht, hp, he⟩]
          have e : spl (meC (meO rs t i)) 0 (recC i r) = recC i r := by
            unfold spl
            rw [List.take_zero, List.nil_append, List.drop_eq_nil_of_le (by rw [meC_len]; simp [recC]), List.append_nil]
          have h : Lx F w0 w3 (.blk b14 (recC i r) :: .blk b12 (spl (meC (meO rs t i)) 0 (recC i r)) :: .blk p (tabR rs) :: .blk b5 zrec :: .blk b3 [it t, it d] :: L) := h
          rw [e] at h
          exact dropHead (A := [_]) h
        · have he : r.ended = true := by simpa using he
          refine rAdd (by omega) (by omega) ?_
          rw [e1]
          exact ⟨⟨by trivial, i + 1, by omega, by trivial, keep (fun hh => by rw [hh.2.2] at he; cases he)⟩, mu⟩
      · refine rAdd (by omega) (by omega) ?_
        rw [e1]
        exact ⟨⟨by trivial, i + 1, by omega, by trivial, keep (fun hh => hh.2.1 hp)⟩, mu⟩
    · refine rAdd (by omega) (by omega) ?_
      rw [e1]
      exact ⟨⟨by trivial, i + 1, by omega, by trivial, keep (fun hh => ht hh.1)⟩, mu⟩
  · have hi : i = 32 := by omega
    subst hi
    cases hme : meO rs t 32 with
    | none =>
      rw [hme] at h
      refine rFA0 (sLd h (i := 0) rfl (v := it 0) rfl ?_)
      refine rEq (rBool ?_)
      rw [if_pos (by decide)]
      refine sDraw h ?_
      refine rLdIN (o := 0) (cs := zrec) (xs := zrec) (fun W hW => hW.get (i := 0) rfl) rfl (by intro j x hj; rw [Nat.zero_add]; exact hj) ?_
      refine ⟨?_, trivial⟩
      refine sStN h.drew (i := 2) rfl rfl (by simp [zrec]) (by simpa using zrec_one) (fun w1 h => ?_)
      unfold leaveV
      refine sLdN h (i := 2) rfl (by simp [spl, zrec]) ?_
      exact k2 hme w1 (dropHead (A := [_, _, _, _]) h)
    | some o =>
      obtain ⟨j, r⟩ := o
      rw [hme] at h
      refine rFA0 (sLd h (i := 0) rfl (v := it (j + 1 : Nat)) rfl ?_)
      refine rEq (rBool ?_)
      rw [if_neg (by simp; omega)]
      refine sDraw h ?_
      refine rLdIN (o := 0) (cs := recC j r) (xs := recC j r) (fun W hW => hW.get (i := 0) rfl) rfl (by intro j x hj; rw [Nat.zero_add]; exact hj) ?_
      refine ⟨?_, trivial⟩
      refine sStN h.drew (i := 2) rfl rfl (by simp [zrec, recC]) (by simpa using recC_one j r) (fun w1 h => ?_)
      unfold leaveV
      refine sLdN h (i := 2) rfl (by simp [spl, zrec, recC]) ?_
      have := k1 j r hme w1 (h.sub (.cons _ (.cons_cons _ (.cons _ (.cons _ (List.Sublist.refl _))))))
      exact this

end

end Go.Proofs.YtdkklhnleppfcaaGreat

/-
  procs.read, whole. Own work.
-/
set_option linter.unusedVariables false
set_option linter.unusedSimpArgs false
set_option maxRecDepth 100000
namespace Go.Proofs.YtdkklhnleppfcaaGreat
open Go Go.V Go.X Go.RowKit

section
variable {F : Nat → Prop} {w0 w : World} {R : List As} {g : KG} {κ : KP} {q : PG} {rs : List Rec}

def readT (K : Value → World → Prop) (J1 : List Value → List Nat → World → Prop) (t0 v3 v5 v34 : Value) (w_7 : World) : Prop :=
  vBin (.int .i64) .neq v34 (.int .i64 0) fun v36 =>
  vBool v36 fun c_2 => if c_2 = true then
   (vBuild Tryz.prog 77 [] fun v37 =>
   CallK Tryz.prog 51 #[v34] w_7 fun v39 w_8 =>
   vSt (some 6) v5 v37 w_8 fun w_9 =>
   vLd (.agg 6) v5 w_9 fun r_2 => K (.tuple #[(.pointer none), r_2, v39]) w_9)
  else
  J1 [t0, v3, v5] [] w_7

theorem pread_spec {t d : Int} {K : Value → World → Prop} (h : Lx F w0 w (procsL g κ q ++ R)) (pw : PW κ q rs) (hm : g.mine κ t)
    (k0 : κ.runs t = false → ∀ w', Lx F w0 w' (procsL g κ q ++ R) → K (.tuple #[.pointer none, .agg zrec.toArray, it 11]) w')
    (k1 : κ.runs t = true → ∀ i r, meO rs t 32 = some (i, r) → ∀ w' p HG, Lx F w0 w' (.blk p (tabR rs) :: (procsL { g with HG := HG } κ q ++ R)) → K (.tuple #[pt p 0, .agg (recC i r).toArray, it 0]) w')
    (k2 : κ.runs t = true → meO rs t 32 = none → ∀ w' HG, Lx F w0 w' (procsL { g with HG := HG } κ q ++ R) → K (.tuple #[.pointer none, .agg zrec.toArray, it 36]) w') :
    CallK Tryz.prog 46 #[pt q.pb 0, .agg #[it t, it d]] w K := by
  apply Ret.call
  apply F46_ok
  unfold F46
  refine sBox h (fun w1 b3 h => ?_)
  refine sAlloc zc77z h (fun w2 b5 h => ?_)
  have h : Lx F w0 w2 (.blk b5 zrec :: .blk b3 [it t, it d] :: (procsL g κ q ++ R)) := h
  refine rPNil' (rIfF ?_)
  refine sJoin ?_
  have hJ2 : ∀ (HG : Int → ThG) (W : World) (b9 : Nat), κ.runs t = true → Lx F w0 W (.blk b9 (toldC { toldZ with s := tabTxt rs }) :: .blk b5 zrec :: .blk b3 [it t, it d] :: (procsL { g with HG := HG } κ q ++ R)) →
      ∀ ρ : Env, [3, 5, 9].map ρ = [pt b3 0, pt b5 0, pt b9 0] → F46J2 K ρ [] W := by
    intro HG W b9 hr h ρ hρ
    simp only [List.map_cons, List.map_nil, List.cons.injEq, and_true] at hρ
    obtain ⟨e3, e5, e9⟩ := hρ
    unfold F46J2
    simp only [e3, e5, e9]
    refine rFA0 (sLd h (i := 0) rfl (v := str (tabTxt rs)) rfl ?_)
    refine parse_spec h pw.len pw.fine (fun w3 p h => ?_)
    refine build77z ?_
    refine sAlloc zc77z h (fun w4 b12 h => ?_)
    refine sStN h (i := 0) rfl rfl (by simp [zrec]) (by simpa using zrec_one) (fun w5 h => ?_)
    refine rNil ?_
    have h : Lx F w0 w5 (.blk b12 zrec :: .blk p (tabR rs) :: .blk b9 (toldC { toldZ with s := tabTxt rs }) :: .blk b5 zrec :: .blk b3 [it t, it d] :: (procsL { g with HG := HG } κ q ++ R)) := h
    refine pread_loop pw.len (h.sub (.cons_cons _ (.cons_cons _ (.cons _ (List.Sublist.refl _))))) (fun i r hme w6 h => ?_) (fun hme w6 h => ?_)
    · exact k1 hr i r hme w6 p HG h
    · exact k2 hr hme w6 HG h
  have hJ1 : ∀ (HG : Int → ThG) (W : World), κ.runs t = true → Lx F w0 W (.blk b5 zrec :: .blk b3 [it t, it d] :: (procsL { g with HG := HG } κ q ++ R)) →
      ∀ ρ : Env, [0, 3, 5].map ρ = [pt q.pb 0, pt b3 0, pt b5 0] → F46J1 K ρ [] W := by
    intro HG W hr h ρ hρ
    simp only [List.map_cons, List.map_nil, List.cons.injEq, and_true] at hρ
    obtain ⟨e0, e3, e5⟩ := hρ
    unfold F46J1
    simp only [e0, e3, e5]
    refine sJoin ?_
    have hrd := pw.readAll
    have hm' : ({ g with HG := HG } : KG).mine κ t := hm
    refine ⟨fun W => Cs W q.pb (procsC g q) ∧ Cs W b3 [it t, it d], ⟨h.drew.get (i := 3) rfl, h.drew.get (i := 1) rfl⟩, ?_⟩
    refine rNil <| rFA0 <| rLdI (fun W hW => hW.1) (v := pt g.kb 0) rfl ?_
    refine rFA0 <| rLdI (fun W hW => hW.2) (v := it t) rfl ?_
    refine rNil <| rFA0 <| rLdI (fun W hW => hW.1) (v := it q.id) rfl ?_
    refine ⟨?_, ?_, trivial⟩
    · refine home_spec (g := g) (q := q) h.drew (fun W hW => hW.get (i := 3) rfl) (fun W hW => hW.get (i := 4) rfl) (fun w3 h => ⟨⟨h.get (i := 3) rfl, h.get (i := 1) rfl⟩, build60_14 ⟨?_, ?_, trivial⟩⟩)
      · refine kdo_read (g := { g with HG := HG }) (r := (q.home, q.id)) h (i := 2) rfl pw.wf hm' pw.boxed (by omega) (by omega) (fun hd => by rw [hr] at hd; cases hd) (fun _ _ w4 h => ?_) (fun _ hne => by rw [hrd] at hne; exact absurd rfl hne)
        rw [hrd]
        refine ⟨⟨h.get (i := 3) rfl, h.get (i := 1) rfl⟩, rExt0 (rExt1 ⟨?_, trivial⟩)⟩
        refine sAlloc zc52' h (fun w5 b9 h => ⟨⟨h.get (i := 4) rfl, h.get (i := 2) rfl⟩, ?_, trivial⟩)
        refine sStN h (i := 0) rfl rfl (by simp [toldC]) (told_one _) (fun w6 h => ?_)
        exact hJ2 HG w6 b9 hr h
      · refine sAlloc zc52' h (fun w4 b9 h => ⟨⟨h.get (i := 4) rfl, h.get (i := 2) rfl⟩, ?_, trivial⟩)
        refine kdo_read (g := { g with HG := HG }) (r := (q.home, q.id)) h (i := 3) rfl pw.wf hm' pw.boxed (by omega) (by omega) (fun hd => by rw [hr] at hd; cases hd) (fun _ _ w5 h => ?_) (fun _ hne => by rw [hrd] at hne; exact absurd rfl hne)
        rw [hrd]
        refine ⟨⟨h.get (i := 4) rfl, h.get (i := 2) rfl⟩, rExt0 (rExt1 ⟨?_, trivial⟩)⟩
        refine sStN h (i := 0) rfl rfl (by simp [toldC]) (told_one _) (fun w6 h => ?_)
        exact hJ2 HG w6 b9 hr h
    · refine sAlloc zc52' h.drew (fun w3 b9 h => ⟨⟨h.get (i := 4) rfl, h.get (i := 2) rfl⟩, ?_, trivial⟩)
      refine home_spec (g := g) (q := q) h (fun W hW => hW.get (i := 4) rfl) (fun W hW => hW.get (i := 5) rfl) (fun w4 h => ⟨⟨h.get (i := 4) rfl, h.get (i := 2) rfl⟩, build60_14 ⟨?_, trivial⟩⟩)
      refine kdo_read (g := { g with HG := HG }) (r := (q.home, q.id)) h (i := 3) rfl pw.wf hm' pw.boxed (by omega) (by omega) (fun hd => by rw [hr] at hd; cases hd) (fun _ _ w5 h => ?_) (fun _ hne => by rw [hrd] at hne; exact absurd rfl hne)
      rw [hrd]
      refine ⟨⟨h.get (i := 4) rfl, h.get (i := 2) rfl⟩, rExt0 (rExt1 ⟨?_, trivial⟩)⟩
      refine sStN h (i := 0) rfl rfl (by simp [toldC]) (told_one _) (fun w6 h => ?_)
      exact hJ2 HG w6 b9 hr h
  have hT0 : ∀ (HG : Int → ThG) (W : World), κ.runs t = true → Lx F w0 W (.blk b5 zrec :: .blk b3 [it t, it d] :: (procsL { g with HG := HG } κ q ++ R)) →
      readT K (fun vs ds W => ∀ ρ : Env, [0, 3, 5].map ρ = vs → F46J1 K ρ ds W) (pt q.pb 0) (pt b3 0) (pt b5 0) (it 0) W := by
    intro HG W hr h
    unfold readT
    refine rNe (rBool ?_)
    rw [if_neg (by decide)]
    exact hJ1 HG W hr h
  have hT1 : ∀ (W : World), κ.runs t = false → Lx F w0 W (.blk b5 zrec :: .blk b3 [it t, it d] :: (procsL g κ q ++ R)) →
      readT K (fun vs ds W => ∀ ρ : Env, [0, 3, 5].map ρ = vs → F46J1 K ρ ds W) (pt q.pb 0) (pt b3 0) (pt b5 0) (it 11) W := by
    intro W hr h
    unfold readT
    refine rNe (rBool ?_)
    rw [if_pos (by decide)]
    refine build77z (say_spec ?_)
    refine sStN h (i := 0) rfl rfl (by simp [zrec]) (by simpa using zrec_one) (fun w3 h => ?_)
    refine sLdN h (i := 0) rfl (by simp [spl, zrec]) ?_
    exact k0 hr w3 (dropHead (A := [_, _]) h)
  have hwr := pw.write0
  refine ⟨fun W => Cs W q.pb (procsC g q) ∧ Cs W b3 [it t, it d], ⟨h.drew.get (i := 3) rfl, h.drew.get (i := 1) rfl⟩, ?_⟩
  refine rNil <| rFA0 <| rLdI (fun W hW => hW.1) (v := pt g.kb 0) rfl ?_
  refine rFA0 <| rLdI (fun W hW => hW.2) (v := it t) rfl ?_
  refine rNil <| rFA0 <| rLdI (fun W hW => hW.1) (v := it q.id) rfl ?_
  refine ⟨?_, ?_, trivial⟩
  · refine home_spec (g := g) (q := q) h.drew (fun W hW => hW.get (i := 3) rfl) (fun W hW => hW.get (i := 4) rfl) (fun w3 h => ⟨⟨h.get (i := 3) rfl, h.get (i := 1) rfl⟩, build60_15 ⟨?_, ?_, trivial⟩⟩)
    · refine kdo_write (r := (q.home, q.id)) h (i := 2) rfl pw.wf hm pw.boxed (by omega) (by omega) (fun hd w4 h => ?_) (fun hr w4 HG h => ?_)
      · refine ⟨⟨h.get (i := 3) rfl, h.get (i := 1) rfl⟩, rExt0 (rExt1 ⟨?_, trivial⟩)⟩
        refine sAlloc zc52' h (fun w5 b7 h => ⟨⟨h.get (i := 4) rfl, h.get (i := 2) rfl⟩, ?_, trivial⟩)
        refine sStN h (i := 0) rfl rfl (by simp [toldC]) (told_one _) (fun w6 h => ?_)
        exact hT1 w6 hd (dropHead (A := [_]) h)
      · rw [hwr] at h ⊢
        refine ⟨⟨h.get (i := 3) rfl, h.get (i := 1) rfl⟩, rExt0 (rExt1 ⟨?_, trivial⟩)⟩
        refine sAlloc zc52' h (fun w5 b7 h => ⟨⟨h.get (i := 4) rfl, h.get (i := 2) rfl⟩, ?_, trivial⟩)
        refine sStN h (i := 0) rfl rfl (by simp [toldC]) (told_one _) (fun w6 h => ?_)
        exact hT0 HG w6 hr (dropHead (A := [_]) h)
    · refine sAlloc zc52' h (fun w4 b7 h => ⟨⟨h.get (i := 4) rfl, h.get (i := 2) rfl⟩, ?_, trivial⟩)
      refine kdo_write (r := (q.home, q.id)) h (i := 3) rfl pw.wf hm pw.boxed (by omega) (by omega) (fun hd w5 h => ?_) (fun hr w5 HG h => ?_)
      · refine ⟨⟨h.get (i := 4) rfl, h.get (i := 2) rfl⟩, rExt0 (rExt1 ⟨?_, trivial⟩)⟩
        refine sStN h (i := 0) rfl rfl (by simp [toldC]) (told_one _) (fun w6 h => ?_)
        exact hT1 w6 hd (dropHead (A := [_]) h)
      · rw [hwr] at h ⊢
        refine ⟨⟨h.get (i := 4) rfl, h.get (i := 2) rfl⟩, rExt0 (rExt1 ⟨?_, trivial⟩)⟩
        refine sStN h (i := 0) rfl rfl (by simp [toldC]) (told_one _) (fun w6 h => ?_)
        exact hT0 HG w6 hr (dropHead (A := [_]) h)
  · refine sAlloc zc52' h.drew (fun w3 b7 h => ⟨⟨h.get (i := 4) rfl, h.get (i := 2) rfl⟩, ?_, trivial⟩)
    refine home_spec (g := g) (q := q) h (fun W hW => hW.get (i := 4) rfl) (fun W hW => hW.get (i := 5) rfl) (fun w4 h => ⟨⟨h.get (i := 4) rfl, h.get (i := 2) rfl⟩, build60_15 ⟨?_, trivial⟩⟩)
    refine kdo_write (r := (q.home, q.id)) h (i := 3) rfl pw.wf hm pw.boxed (by omega) (by omega) (fun hd w5 h => ?_) (fun hr w5 HG h => ?_)
    · refine ⟨⟨h.get (i := 4) rfl, h.get (i := 2) rfl⟩, rExt0 (rExt1 ⟨?_, trivial⟩)⟩
      refine sStN h (i := 0) rfl rfl (by simp [toldC]) (told_one _) (fun w6 h => ?_)
      exact hT1 w6 hd (dropHead (A := [_]) h)
    · rw [hwr] at h ⊢
      refine ⟨⟨h.get (i := 4) rfl, h.get (i := 2) rfl⟩, rExt0 (rExt1 ⟨?_, trivial⟩)⟩
      refine sStN h (i := 0) rfl rfl (by simp [toldC]) (told_one _) (fun w6 h => ?_)
      exact hT0 HG w6 hr (dropHead (A := [_]) h)

end

end Go.Proofs.YtdkklhnleppfcaaGreat
