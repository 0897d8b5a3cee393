/-
  ProcsNone: the law, its walk. Own work.
-/
import Derived.Test.YtdkklhnleppfcaaGreatN1
import Derived.Test.YtdkklhnleppfcaaGreatND
import Derived.Test.YtdkklhnleppfcaaGreatLP
set_option linter.unusedVariables false
set_option linter.unusedSimpArgs false

set_option linter.unusedVariables false
set_option linter.unusedSimpArgs false
set_option maxRecDepth 100000
namespace Go.Proofs.YtdkklhnleppfcaaGreat
open Go Go.V Go.X Go.RowKit

theorem b36e : (fun (K : Value → Prop) => vBuild Tryz.prog 36 [] K) = fun K => K (.agg #[it 0, it 0]) := by kernel_rfl
theorem build36 {K : Value → Prop} (k : K (.agg #[it 0, it 0])) : vBuild Tryz.prog 36 [] K := by
  have := congrFun b36e K
  exact this ▸ k
theorem b33e : (fun (K : Value → Prop) => vBuild Tryz.prog 33 [(2, .pointer none)] K) = fun K => ((1 : Nat) = 1 ∧ K (.agg #[.pointer none, .pointer none, .pointer none])) := by kernel_rfl
theorem build33 {K : Value → Prop} (k : K (.agg #[.pointer none, .pointer none, .pointer none])) : vBuild Tryz.prog 33 [(2, .pointer none)] K := by
  have := congrFun b33e K
  exact this ▸ ⟨rfl, k⟩
theorem b90e : (fun (K : Value → Prop) => vBuild Tryz.prog 90 [(0, .int .i64 4)] K) = fun K => ((1 : Nat) = 1 ∧ K ansV) := by kernel_rfl
theorem build90 {K : Value → Prop} (k : K ansV) : vBuild Tryz.prog 90 [(0, .int .i64 4)] K := by
  have := congrFun b90e K
  exact this ▸ ⟨rfl, k⟩
theorem b77f : (fun (K : Value → Prop) => vBuild Tryz.prog 77 [(0, .int .i64 1), (1, .int .i64 1), (2, .int .i64 30), (3, .int .i64 701)] K) = fun K => ((1 : Nat) = 1 ∧ (1 : Nat) = 1 ∧ (1 : Nat) = 1 ∧ (1 : Nat) = 1 ∧ K (.agg #[it 1, it 1, it 30, it 701, .bool false, it 0])) := by kernel_rfl
theorem build77f {K : Value → Prop} (k : K (.agg #[it 1, it 1, it 30, it 701, .bool false, it 0])) : vBuild Tryz.prog 77 [(0, .int .i64 1), (1, .int .i64 1), (2, .int .i64 30), (3, .int .i64 701)] K := by
  have := congrFun b77f K
  exact this ▸ ⟨rfl, rfl, rfl, rfl, k⟩

theorem sRemU {a : Int} {K : Value → Prop} (k : K (.int .u64 (a.tmod 9))) : vBin (.int .u64) .rem (.int .u64 a) (.int .u64 9) K := ⟨rfl, by decide, k⟩
theorem rAddW {a b : Int} {K : Value → Prop} (k : K (.int .i64 (IntKind.i64.wrap (a + b)))) : vBin (.int .i64) .add (.int .i64 a) (.int .i64 b) K := ⟨rfl, k⟩
theorem e40 {a b c d : Value} {K : Value → Prop} (k : K a) : vExt (.tuple #[a, b, c, d]) 0 K := k
theorem e41 {a b c d : Value} {K : Value → Prop} (k : K b) : vExt (.tuple #[a, b, c, d]) 1 K := k
theorem e42 {a b c d : Value} {K : Value → Prop} (k : K c) : vExt (.tuple #[a, b, c, d]) 2 K := k
theorem e43 {a b c d : Value} {K : Value → Prop} (k : K d) : vExt (.tuple #[a, b, c, d]) 3 K := k

theorem Lx.perm {F : Nat → Prop} {w0 w : World} {L L' : List As} (h : Lx F w0 w L) (p : L.Perm L') : Lx F w0 w L' :=
  ⟨h.fr, fun x hx => h.ok x (p.mem_iff.2 hx), fun x hx => h.mine x (p.mem_iff.2 hx), (p.pairwise_iff (fun {a b} hab k ha hb => hab k hb ha)).1 h.dj⟩

def opN (op : Int) : Int := IntKind.i64.wrap (1 + IntKind.i64.wrap ((IntKind.u64.wrap op).tmod 9))
theorem opN_cases (op : Int) : opN op = 1 ∨ opN op = 2 ∨ opN op = 3 ∨ opN op = 4 ∨ opN op = 5 ∨ opN op = 6 ∨ opN op = 7 ∨ opN op = 8 ∨ opN op = 9 := by
  have h0 : 0 ≤ IntKind.u64.wrap op := by
    show 0 ≤ op % 18446744073709551616
    omega
  have h : ∃ n : Nat, n < 9 ∧ (IntKind.u64.wrap op).tmod 9 = n := by
    obtain ⟨k, hk⟩ := Int.eq_ofNat_of_zero_le h0
    refine ⟨k % 9, Nat.mod_lt _ (by decide), ?_⟩
    rw [hk]
    rfl
  obtain ⟨n, hn, e⟩ := h
  unfold opN
  rw [e]
  have : n = 0 ∨ n = 1 ∨ n = 2 ∨ n = 3 ∨ n = 4 ∨ n = 5 ∨ n = 6 ∨ n = 7 ∨ n = 8 := by omega
  rcases this with rfl | rfl | rfl | rfl | rfl | rfl | rfl | rfl | rfl <;> decide

theorem vr_ans {m : Ren} {v : Value} (h : VR m ansV v) : v = ansV :=
  VR.fun h (.agg (.cons (.int _ _) (.cons (.int _ _) (.cons (.int _ _) (.cons (.str _) .nil)))))

/-- a call on no processes, whatever call -/
theorem do_spec {F : Nat → Prop} {w0 w : World} {L : List As} {b : Nat} (h : Lx F w0 w (.blk b [.pointer none, .pointer none, .pointer none] :: L)) {r : Int} (hr : r = 1 ∨ r = 2 ∨ r = 3 ∨ r = 4 ∨ r = 5 ∨ r = 6 ∨ r = 7 ∨ r = 8 ∨ r = 9) (u p n f : Int) (s : ByteArray)
    {K : Value → World → Prop} (k : ∀ w', Lx F w0 w' L → K ansV w') : CallK Tryz.prog 26 #[pt b 0, .agg #[.int .i64 r, it u, it p, it n, it f, .string s], it 3, it 9] w K := by
  have h1 := Lx.swap (Go.X.Lx.st h (N := 0) (ex := []) (Nat.zero_le _) (by intro a ha; cases ha))
  obtain ⟨h2, hm⟩ := Go.X.Lx.give h1 (xs := [lNP, lNP, lNP]) (.cons .pnil (.cons .pnil (.cons .pnil .nil))) 1 (Nat.zero_le _)
  have hx : VR ((ren0 0 [] w).add 0 ⟨b, 0, 0⟩) (lP 0 0) (pt b 0) := VR.ptr (a := ⟨b, 0, 0⟩) (Ren.add_same _ _ _)
  have go : ∀ kk, memT F0 (dM r u p n f s kk) = true → CallK Tryz.prog 26 #[pt b 0, .agg #[.int .i64 r, it u, it p, it n, it f, .string s], it 3, it 9] w K := fun kk hk => by
    refine sMem (M := dM r u p n f s kk) (mem_ok F0_ok hk) h2 (i := 0) (m := (ren0 0 [] w).add 0 ⟨b, 0, 0⟩) rfl
      (as' := [pt b 0, .agg #[.int .i64 r, it u, it p, it n, it f, .string s], it 3, it 9])
      (.cons hx (.cons (.agg (.cons (.int _ _) (.cons (.int _ _) (.cons (.int _ _) (.cons (.int _ _) (.cons (.int _ _) (.cons (.str _) .nil))))))) (.cons (.int _ _) (.cons (.int _ _) .nil)))) fun m' v' w' _ hv hL => ?_
    rw [vr_ans hv]
    exact k w' (hL.sub (List.sublist_cons_self _ _))
  rcases hr with rfl | rfl | rfl | rfl | rfl | rfl | rfl | rfl | rfl
  · exact go _ (d1 u p n f s)
  · exact go _ (d2 u p n f s)
  · exact go _ (d3 u p n f s)
  · exact go _ (d4 u p n f s)
  · exact go _ (d5 u p n f s)
  · exact go _ (d6 u p n f s)
  · exact go _ (d7 u p n f s)
  · exact go _ (d8 u p n f s)
  · exact go _ (d9 u p n f s)

end Go.Proofs.YtdkklhnleppfcaaGreat

/-
  ProcsNone: the law, its walk, whole. Own work.
-/
set_option linter.unusedVariables false
set_option linter.unusedSimpArgs false
set_option maxRecDepth 100000
namespace Go.Proofs.YtdkklhnleppfcaaGreat
open Go Go.V Go.X Go.RowKit

theorem ne77 {K : Value → Prop} (k : K (.bool false)) : vAggEq Tryz.prog 77 .neq (.agg #[it 1, it 1, it 30, it 701, .bool false, it 0]) (.agg #[it 1, it 1, it 30, it 701, .bool false, it 0]) K :=
  xAggEq_ok (m := ren0 0 [] default) (x := lA [lI 1, lI 1, lI 30, lI 701, .bool false, lI 0]) (y := lA [lI 1, lI 1, lI 30, lI 701, .bool false, lI 0]) (v := .bool false) (.agg (closed_all (by kernel_rfl))) (.agg (closed_all (by kernel_rfl))) (by kernel_rfl) fun _ => k
theorem eq77 {K : Value → Prop} (k : K (.bool true)) : vAggEq Tryz.prog 77 .eql (.agg zProc) (.agg zProc) K :=
  xAggEq_ok (m := ren0 0 [] default) (x := .agg zProc) (y := .agg zProc) (v := .bool true) (.agg (closed_all (by kernel_rfl))) (.agg (closed_all (by kernel_rfl))) (by kernel_rfl) fun _ => k
theorem eq90 {K : Value → Prop} (k : K (.bool true)) : vAggEq Tryz.prog 90 .eql ansV ansV K :=
  xAggEq_ok (m := ren0 0 [] default) (x := ansV) (y := ansV) (v := .bool true) (.agg (closed_all (by kernel_rfl))) (.agg (closed_all (by kernel_rfl))) (by kernel_rfl) fun _ => k

def recV : Value := .agg #[it 1, it 1, it 30, it 701, .bool false, it 0]

theorem one6 (a b c d f : Int) (e : Bool) : ∀ x ∈ (#[it a, it b, it c, it d, .bool e, it f] : Array Value).toList, x.oneCell' = true := by
  intro x hx
  simp at hx
  rcases hx with rfl | rfl | rfl | rfl | rfl | rfl <;> rfl

theorem law_spec {w : World} (op u p n f : Int) (hp0 : -9223372036854775808 ≤ p) (hp1 : p < 9223372036854775808) (s : ByteArray) {K : Value → World → Prop} (hk : ∀ w', Fr (fun _ => False) w w' → K (.bool true) w') :
    Ret Tryz.prog 9 #[.agg ⟨[.int .i64 op, it u, it p, it n, it f, .string s]⟩] w K := by
  refine F9_ok ?_
  unfold F9
  refine sBox (Lx.start (fun _ => False) w) (fun w1 bo hL => ?_)
  refine sClosed ll_ok rfl hL (as' := []) .nil (fun m v w2 hv hL => ?_)
  rw [VR.bool_eq (show VR m (.bool true) v from hv)]
  refine rNot (rBool ?_)
  rw [if_neg (by decide)]
  refine build36 ?_
  refine sClosed n1_ok rfl hL (as' := []) .nil (fun m v w3 hv hL => ?_)
  rw [VR.fun (show VR m (lA [lI 2, lNS]) v from hv) (.agg (.cons (.int _ _) (.cons .snil .nil)))]
  refine sClosed nb_ok rfl hL (as' := [.pointer none, .pointer none, .agg #[it 0, it 0], it 1, .agg ⟨[.int .i64 2, lNS]⟩, it 9])
    (.cons .pnil (.cons .pnil (.cons (.agg (.cons (.int _ _) (.cons (.int _ _) .nil))) (.cons (.int _ _) (.cons (.agg (.cons (.int _ _) (.cons .snil .nil))) (.cons (.int _ _) .nil)))))) (fun m v w4 hv hL => ?_)
  rw [VR.fun (show VR m (lT [lNP, lI 4]) v from hv) (.tup (.cons .pnil (.cons (.int _ _) .nil)))]
  refine rExt0 (rExt1 ?_)
  refine build33 ?_
  refine sBox hL (fun w5 bx hL => ?_)
  refine rFA0 (sLd hL (i := 1) rfl (v := .int .i64 op) rfl ?_)
  refine sCv (sRemU ?_)
  refine sCv (rAddW ?_)
  refine rFA0 (sSt hL (i := 1) rfl (by simp) rfl (by intro c e; cases e) (fun w6 hL => ?_))
  refine build36 ?_
  refine sClosed nl_ok rfl hL (as' := [.pointer none, .agg #[it 0, it 0]]) (.cons .pnil (.cons (.agg (.cons (.int _ _) (.cons (.int _ _) .nil))) .nil)) (fun m v w7 hv hL => ?_)
  rw [VR.fun (show VR m (lT [lNS, lI 4]) v from hv) (.tup (.cons .snil (.cons (.int _ _) .nil)))]
  refine rExt0 (rExt1 ?_)
  refine build36 ?_
  refine sClosed ns_ok rfl hL (as' := [.pointer none, .agg #[it 0, it 0]]) (.cons .pnil (.cons (.agg (.cons (.int _ _) (.cons (.int _ _) .nil))) .nil)) (fun m v w8 hv hL => ?_)
  rw [VR.fun (show VR m (lT [lA [lI 0, lI 0, lI 0, lI 0, .bool false, lI 0], lI 4]) v from hv) (.tup (.cons (.agg (closed_all (by kernel_rfl))) (.cons (.int _ _) .nil)))]
  refine rExt0 (rExt1 ?_)
  refine sAlloc zc77 hL (fun w9 b8 hL => ?_)
  refine sStN hL (i := 0) rfl rfl (by decide) (by decide) (fun w10 hL => ?_)
  refine build36 ?_
  refine sClosed nh_ok rfl hL (as' := [.pointer none, .agg #[it 0, it 0]]) (.cons .pnil (.cons (.agg (.cons (.int _ _) (.cons (.int _ _) .nil))) .nil)) (fun m v w11 hv hL => ?_)
  rw [VR.fun (show VR m (lT [lI 0, lI 0, lI 0, lI 4]) v from hv) (.tup (closed_all (by kernel_rfl)))]
  refine e40 (e41 (e42 (e43 ?_)))
  have hL := Go.X.Lx.st hL (N := 0) (ex := []) (Nat.zero_le _) (by intro a ha; cases ha)
  refine sMem s1_ok hL (i := 0) (m := ren0 0 [] w11) rfl (as' := []) .nil (fun m1 v w12 hm hv hL => ?_)
  have hv : VR m1 (lT [lP 2428 0, lP 2435 0]) v := hv
  cases hv with
  | tup hs =>
  cases hs with
  | cons hx hs =>
  cases hs with
  | cons hy hs =>
  cases hs
  refine rExt0 (rExt1 ?_)
  rename_i v64 v65
  refine xNil_ok hx (v := lP 2428 0) rfl fun v68 h68 => ?_
  refine xFA_ok h68 (v := lP 2428 2) rfl fun v69 h69 => ?_
  refine sLdX hL (i := 0) rfl h69 (v := lP 1754 0) (by kernel_rfl) fun v70 h70 => ?_
  refine sMem p1_ok hL (i := 0) (m := m1) rfl (as' := [v70, it 1]) (.cons h70 (.cons (.int _ _) .nil)) (fun m2 v w13 hm2 hv hL => ?_)
  rw [VR.fun (show VR m2 (lT [lA [lI 1, lI 1, lI 30, lI 701, .bool false, lI 0], .bool true]) v from hv) (.tup (.cons (.agg (closed_all (by kernel_rfl))) (.cons (.bool _) .nil)))]
  refine rExt0 (rExt1 ?_)
  refine sAlloc zc77 hL (fun w14 b16 hL => ?_)
  refine sStN hL (i := 0) rfl rfl (by decide) (by decide) (fun w15 hL => ?_)
  refine xNil_ok (hx.imp hm2) (v := lP 2428 0) rfl fun v76 h76 => ?_
  refine xFA_ok h76 (v := lP 2428 2) rfl fun v77 h77 => ?_
  refine sLdX hL (i := 1) rfl h77 (v := lP 1754 0) (by kernel_rfl) fun v78 h78 => ?_
  refine sMem p2_ok hL (i := 1) (m := m2) rfl (as' := [v78, it 2]) (.cons h78 (.cons (.int _ _) .nil)) (fun m3 v w16 hm3 hv hL => ?_)
  rw [VR.fun (show VR m3 (lT [lA [lI 0, lI 0, lI 0, lI 0, .bool false, lI 0], .bool false]) v from hv) (.tup (.cons (.agg (closed_all (by kernel_rfl))) (.cons (.bool _) .nil)))]
  refine rExt0 (rExt1 ?_)
  refine sAlloc zc77 hL (fun w17 b18 hL => ?_)
  refine sStN hL (i := 0) rfl rfl (by decide) (by decide) (fun w18 hL => ?_)
  refine sJoin ?_
  have h64 : VR m3 (lP 2428 0) v64 := (hx.imp hm2).imp hm3
  -- what is there, in order
  have hS : Lx (fun _ => False) w w18 (As.st 0 m3 ⟨p2b.heap, p2b.next⟩ :: [.blk bo [.int .i64 (opN op), it u, it p, it n, it f, .string s], .blk bx [.pointer none, .pointer none, .pointer none], .blk b8 zProc.toList, .blk b16 [it 1, it 1, it 30, it 701, .bool false, it 0]]) := by
    have hL' : Lx (fun _ => False) w w18 [.blk b18 zProc.toList, .blk b16 [it 1, it 1, it 30, it 701, .bool false, it 0], As.st 0 m3 ⟨p2b.heap, p2b.next⟩, .blk b8 zProc.toList, .blk bx [.pointer none, .pointer none, .pointer none], .blk bo [.int .i64 (opN op), it u, it p, it n, it f, .string s]] := hL
    refine Lx.perm (hL'.sub (List.sublist_cons_self _ _)) ?_
    refine List.Perm.trans (List.Perm.swap _ _ _) (List.Perm.cons _ ?_)
    exact (List.reverse_perm [As.blk bo [.int .i64 (opN op), it u, it p, it n, it f, .string s], .blk bx [.pointer none, .pointer none, .pointer none], .blk b8 zProc.toList, .blk b16 [it 1, it 1, it 30, it 701, .bool false, it 0]])
  generalize hR : ([.blk bo [.int .i64 (opN op), it u, it p, it n, it f, .string s], .blk bx [.pointer none, .pointer none, .pointer none], .blk b8 zProc.toList, .blk b16 [it 1, it 1, it 30, it 701, .bool false, it 0]] : List As) = R at hS
  have hout : ∀ out : Bool, (out = true → IntKind.i64.wrap (p + 40) = 1) → out = true → p = -39 := fun out h ho => by
    have := h ho
    have e : IntKind.i64.wrap (p + 40) = if (p + 40) % 18446744073709551616 ≥ 9223372036854775808 then (p + 40) % 18446744073709551616 - 18446744073709551616 else (p + 40) % 18446744073709551616 := by
      simp [IntKind.wrap, IntKind.signed, IntKind.bits]
    rw [e] at this
    split at this <;> omega
  have last : ∀ (out : Bool) (W : World) (ρ : Env), (out = true → p = -39) → Lx (fun _ => False) w W R →
      [1, 3, 4, 5, 6, 7, 8, 9, 13, 16, 17, 19, 21].map ρ = [pt bo 0, .pointer none, it 4, pt bx 0, lNS, it 4, pt b8 0, it 4, it 4, pt b16 0, .bool true, .bool false, .bool out] → F9J1 K ρ [] W := by
    intro out W ρ ho hL hρ
    subst hR
    simp only [List.map_cons, List.map_nil, List.cons.injEq, and_true] at hρ
    obtain ⟨e1, e3, e4, e5, e6, e7, e8, e9, e13, e16, e17, e19, e21⟩ := hρ
    unfold F9J1
    rw [e1, e3, e4, e5, e6, e7, e8, e9, e13, e16, e17, e19, e21]
    refine sClosed np_ok rfl hL (as' := [.pointer none, it 1]) (.cons .pnil (.cons (.int _ _) .nil)) (fun m v W1 hv hL => ?_)
    rw [VR.fun (show VR m (lT [lA [lI 0, lI 0, lI 0, lI 0, .bool false, lI 0], .bool false]) v from hv) (.tup (.cons (.agg (closed_all (by kernel_rfl))) (.cons (.bool _) .nil)))]
    refine rExt0 (rExt1 ?_)
    refine sAlloc zc77 hL (fun W2 b22 hL => ?_)
    refine sStN hL (i := 0) rfl rfl (by decide) (by decide) (fun W3 hL => ?_)
    refine sJoin ?_
    refine rNot (rBool ?_)
    rw [if_neg (by decide)]
    refine sLdN hL (i := 4) rfl (n := 6) rfl ?_
    refine build77f (ne77 (rIfF (rIfF (rIfF ?_))))
    have fin : ∀ ρ2 : Env, [1, 3, 4, 5, 6, 7, 8, 9, 13].map ρ2 = [pt bo 0, .pointer none, it 4, pt bx 0, lNS, it 4, pt b8 0, it 4, it 4] → F9J2 K ρ2 [] W3 := by
      intro ρ2 hρ2
      simp only [List.map_cons, List.map_nil, List.cons.injEq, and_true] at hρ2
      obtain ⟨e1, e3, e4, e5, e6, e7, e8, e9, e13⟩ := hρ2
      unfold F9J2
      rw [e1, e3, e4, e5, e6, e7, e8, e9, e13]
      refine rPNil (rIfT (rEq (rBool ?_)))
      rw [if_pos (by decide)]
      refine sLdN hL (i := 1) rfl (n := 6) rfl ?_
      have hL2 : Lx (fun _ => False) w W3 (.blk bx [.pointer none, .pointer none, .pointer none] :: [.blk bo [.int .i64 (opN op), it u, it p, it n, it f, .string s], .blk b8 zProc.toList]) :=
        (Lx.perm (hL.sub (List.sublist_cons_self _ _)) (List.Perm.swap _ _ _)).sub (.cons_cons _ (.cons_cons _ (.cons_cons _ (.cons _ (List.Sublist.refl _)))))
      refine do_spec hL2 (opN_cases op) u p n f s (fun W4 hL => ?_)
      refine build90 (eq90 (rIfT ?_))
      refine rLenS (a := none) (n := 0) (c := 0) ?_
      refine rEq (rBool ?_)
      rw [if_pos (by decide)]
      refine rEq (rBool ?_)
      rw [if_pos (by decide)]
      refine sLdN hL (i := 1) rfl (n := 6) rfl ?_
      refine build77e (eq77 (rIfT ?_))
      refine rEq (rBool ?_)
      rw [if_pos (by decide)]
      refine rEq ?_
      unfold leaveV
      exact hk W4 hL.fr
    refine sIf (fun h1 => ?_) (fun h1 => ?_)
    · refine rFA0 (sLd hL (i := 1) rfl (v := it p) rfl ?_)
      refine rNe (sIfNE (fun h => absurd (ho h1) h) (fun h => ?_))
      exact fin
    · exact fin
  refine ⟨SS (fun _ => False) w m3 p2b.heap R, ⟨m3, p2b.next, fun _ _ e => e, hS.drew⟩, ?_⟩
  refine xNil_ok h64 (v := lP 2428 0) rfl fun v84 h84 => ?_
  refine xFA_ok h84 (v := lP 2428 2) rfl fun v85 h85 => ?_
  refine sLdSX hS h85 (v := lP 1754 0) (by kernel_rfl) fun v86 h86 => ?_
  refine rFA0 (rLdS (it p) (fun W hW => ?_) ?_)
  · obtain ⟨m', nx, _, hW⟩ := hW
    subst hR
    exact ⟨_, hW.get (i := 1) rfl, rfl⟩
  refine rAddW ?_
  refine ⟨?_, ?_, trivial⟩
  · refine peek_sym hS.drew h86 _ (fun w19 m' nx a b c d f' e out ho hm hL => ?_)
    refine ⟨⟨m', nx, hm, hL⟩, rExt0 (rExt1 ⟨?_, trivial⟩)⟩
    refine sAlloc zc77 hL (fun w20 b20 hL => ?_)
    refine ⟨⟨m', nx, hm, hL.sub (List.sublist_cons_self _ _)⟩, ?_, trivial⟩
    refine sStN hL (i := 0) rfl rfl (by decide) (one6 _ _ _ _ _ _) (fun w21 hL => ?_)
    intro ρ hρ
    exact last out w21 ρ (hout out ho) (hL.sub (.cons _ (.cons _ (List.Sublist.refl _)))) hρ
  · refine sAlloc zc77 hS.drew (fun w20 b20 hL => ?_)
    refine ⟨⟨m3, p2b.next, fun _ _ e => e, hL.sub (List.sublist_cons_self _ _)⟩, ?_, trivial⟩
    refine peek_sym (Lx.swap hL) h86 _ (fun w19 m' nx a b c d f' e out ho hm hL => ?_)
    refine ⟨⟨m', nx, hm, hL.sub (.cons_cons _ (.cons _ (List.Sublist.refl _)))⟩, rExt0 (rExt1 ⟨?_, trivial⟩)⟩
    refine sStN hL (i := 1) rfl rfl (by decide) (one6 _ _ _ _ _ _) (fun w21 hL => ?_)
    intro ρ hρ
    exact last out w21 ρ (hout out ho) (hL.sub (.cons _ (.cons _ (List.Sublist.refl _)))) hρ

end Go.Proofs.YtdkklhnleppfcaaGreat
