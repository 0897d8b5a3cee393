/-
  FilesNone: who, as a hook of the executor. Own work.
-/
import Derived.Test.YtelkbliggjfdaaaGreatDoorK
import Derived.Test.YtelkbliggjfdaaaGreatDoorFs
import Derived.Test.YtelkbliggjfdaaaGreatDoorXD
import Derived.Test.YtelkbliggjfdaaaGreatDoorVF
import Derived.Test.YtelkbliggjfdaaaGreatDoorML
import Derived.Test.YtelkbliggjfdaaaGreatDoorN
set_option linter.unusedVariables false
set_option linter.unusedSimpArgs false

set_option linter.unusedVariables false
set_option maxRecDepth 100000
namespace Go.Proofs.YtelkbliggjfdaaaGreatDoor
open Go Go.V Go.X Go.RowKit

theorem Sim_alloc {m : Ren} {s : St} {w : World} (h : Sim m s w) (o : Obj) : Sim m s (w.alloc o) := by
  have hsz : (w.alloc o).heap.size = w.heap.size + 1 := by show (w.heap.push o).size = _; simp
  have hold : ∀ i, i < w.heap.size → (w.alloc o).heap[i]? = w.heap[i]? := fun i hi => by
    show (w.heap.push o)[i]? = _
    rw [Array.getElem?_push, if_neg (Nat.ne_of_lt hi)]
  refine ⟨fun b k hb hd => ?_, h.inj, h.fresh, fun b a ha => by rw [hsz]; exact Nat.lt_succ_of_lt (h.lt b a ha), h.fr.alloc o, h.own, h.res, fun c r hc => by rw [hsz]; exact Nat.lt_succ_of_lt (h.lpl c r hc)⟩
  obtain ⟨a, o', h1, h2, h3⟩ := h.obj b k hb hd
  exact ⟨a, o', h1, by rw [hold _ (h.lt b a h1)]; exact h2, h3⟩

def whoN (u : Int) : Int := IntKind.i64.wrap ((IntKind.u64.wrap u).tmod 5)
def whoT (u : Int) : Int := if whoN u = 0 then 3 else IntKind.i64.wrap (29 + whoN u)

theorem rConvI {k j : IntKind} {n : Int} {K : Value → Prop} (h : K (.int k (k.wrap n))) : vConv (.int k) (.int j n) K := h
theorem rRemI {k : IntKind} {a b : Int} {K : Value → Prop} (hb : b ≠ 0) (h : K (.int k (a.tmod b))) : vBin (.int k) .rem (.int k a) (.int k b) K := ⟨rfl, hb, h⟩
theorem rEqI {k : IntKind} {a b : Int} {K : Value → Prop} (h : K (.bool (a == b))) : vBin (.int k) .eql (.int k a) (.int k b) K := ⟨rfl, h⟩
theorem rAddI {k : IntKind} {a b : Int} {K : Value → Prop} (h : K (.int k (k.wrap (a + b)))) : vBin (.int k) .add (.int k a) (.int k b) K := ⟨rfl, h⟩

theorem who_spec {w : World} {a : Value} {u : Int} {l : List Value} {K : Value → World → Prop} (hk : ∀ o, K (.tuple #[.int .i64 (whoT u), .int .i64 (whoN u)]) (w.alloc o)) : Ret Tryz.prog 16 #[.agg ⟨a :: .int .i64 u :: l⟩] w K := by
  refine F16_ok ?_
  unfold F16 vBox
  have hc : Cs (w.alloc (.cells (Value.agg ⟨a :: .int .i64 u :: l⟩).cells 26)) w.heap.size (a :: .int .i64 u :: l) := Cs.new' w ⟨a :: .int .i64 u :: l⟩ 26
  refine rFA0 ?_
  refine rLd hc (v := .int .i64 u) rfl ?_
  refine rConvI (rRemI (by decide) (rConvI (rEqI ?_)))
  have h := hk (.cells (Value.agg ⟨a :: .int .i64 u :: l⟩).cells 26)
  show (if (whoN u == 0) = true then _ else _)
  by_cases e : whoN u = 0
  · have e2 : whoT u = 3 := if_pos e
    rw [e2, e] at h
    rw [if_pos (by simpa using e)]
    exact h
  · have e2 : whoT u = IntKind.i64.wrap (29 + whoN u) := if_neg e
    rw [e2] at h
    rw [if_neg (by simpa using e)]
    exact rAddI h

noncomputable def hkW : Hook := fun st g vs => bif Nat.beq g 16 then match vs with
    | [.agg ⟨_ :: .int .i64 u :: _⟩] => some (lT [lI (whoT u), lI (whoN u)], st)
    | _ => none
  else none

theorem hkW_ok : HkOK Tryz.prog 3 hkW := by
  intro m st st' w g vs vs' v K hs hg ha h hk
  unfold hkW at h
  cases hb : Nat.beq g 16 with
  | false => rw [hb, cond_false] at h; cases h
  | true =>
    rw [hb, cond_true] at h
    split at h <;> try (cases h; done)
    rename_i x u l
    cases h
    rw [Nat.eq_of_beq_eq_true hb]
    cases ha with
    | cons h1 h2 =>
      cases h2
      cases h1 with
      | agg h1 =>
        cases h1 with
        | cons h3 h4 =>
          cases h4 with
          | cons h5 h6 =>
            cases h5
            exact .inl (who_spec fun o => hk m _ _ (Ren.le.refl m) (.tup (.cons (.int _ _) (.cons (.int _ _) .nil))) (Sim_alloc hs o))

noncomputable def FW : Funs := funs Tryz.prog 3 (goodL gl) xtabs (orH hkW hk0) 100000 60
theorem FW_ok : FsOK Tryz.prog 3 FW := funs_ok told (orH_ok hkW_ok hk0_ok) 60

end Go.Proofs.YtelkbliggjfdaaaGreatDoor

/-
  FilesNone: do on no files: ten cases. Own work; printed.
-/
set_option linter.unusedVariables false
set_option maxRecDepth 100000
namespace Go.Proofs.YtelkbliggjfdaaaGreatDoor
open Go Go.V Go.X Go.RowKit

noncomputable def dM (r : Int) (u a b : Int) (s t x : ByteArray) (d : Int) (sv : Value) (n : Nat) : Mem := ⟨7, [lNP, lA [lI r, lI u, lI a, lI b, .string s, .string t, .string x, lI d, sv], lI 7], ⟨.leaf, 4⟩, lA [lI 4, lX [], lI 0, lI 0, lI 0, lI 0, lI 0, lNS, lNS], ⟨.leaf, n⟩⟩
theorem d1s (u a b : Int) (s t x : ByteArray) (d : Int) (l k : Nat) : memT FW (dM 1 u a b s t x d (lS 3 0 l k) 16) = true := by kernel_rfl
theorem d1n (u a b : Int) (s t x : ByteArray) (d : Int) : memT FW (dM 1 u a b s t x d lNS 16) = true := by kernel_rfl
theorem d2s (u a b : Int) (s t x : ByteArray) (d : Int) (l k : Nat) : memT FW (dM 2 u a b s t x d (lS 3 0 l k) 16) = true := by kernel_rfl
theorem d2n (u a b : Int) (s t x : ByteArray) (d : Int) : memT FW (dM 2 u a b s t x d lNS 16) = true := by kernel_rfl
theorem d3s (u a b : Int) (s t x : ByteArray) (d : Int) (l k : Nat) : memT FW (dM 3 u a b s t x d (lS 3 0 l k) 15) = true := by kernel_rfl
theorem d3n (u a b : Int) (s t x : ByteArray) (d : Int) : memT FW (dM 3 u a b s t x d lNS 15) = true := by kernel_rfl
theorem d4s (u a b : Int) (s t x : ByteArray) (d : Int) (l k : Nat) : memT FW (dM 4 u a b s t x d (lS 3 0 l k) 15) = true := by kernel_rfl
theorem d4n (u a b : Int) (s t x : ByteArray) (d : Int) : memT FW (dM 4 u a b s t x d lNS 15) = true := by kernel_rfl
theorem d5s (u a b : Int) (s t x : ByteArray) (d : Int) (l k : Nat) : memT FW (dM 5 u a b s t x d (lS 3 0 l k) 15) = true := by kernel_rfl
theorem d5n (u a b : Int) (s t x : ByteArray) (d : Int) : memT FW (dM 5 u a b s t x d lNS 15) = true := by kernel_rfl
theorem d6s (u a b : Int) (s t x : ByteArray) (d : Int) (l k : Nat) : memT FW (dM 6 u a b s t x d (lS 3 0 l k) 15) = true := by kernel_rfl
theorem d6n (u a b : Int) (s t x : ByteArray) (d : Int) : memT FW (dM 6 u a b s t x d lNS 15) = true := by kernel_rfl
theorem d7s (u a b : Int) (s t x : ByteArray) (d : Int) (l k : Nat) : memT FW (dM 7 u a b s t x d (lS 3 0 l k) 15) = true := by kernel_rfl
theorem d7n (u a b : Int) (s t x : ByteArray) (d : Int) : memT FW (dM 7 u a b s t x d lNS 15) = true := by kernel_rfl
theorem d8s (u a b : Int) (s t x : ByteArray) (d : Int) (l k : Nat) : memT FW (dM 8 u a b s t x d (lS 3 0 l k) 15) = true := by kernel_rfl
theorem d8n (u a b : Int) (s t x : ByteArray) (d : Int) : memT FW (dM 8 u a b s t x d lNS 15) = true := by kernel_rfl
theorem d9s (u a b : Int) (s t x : ByteArray) (d : Int) (l k : Nat) : memT FW (dM 9 u a b s t x d (lS 3 0 l k) 16) = true := by kernel_rfl
theorem d9n (u a b : Int) (s t x : ByteArray) (d : Int) : memT FW (dM 9 u a b s t x d lNS 16) = true := by kernel_rfl
theorem d10s (u a b : Int) (s t x : ByteArray) (d : Int) (l k : Nat) : memT FW (dM 10 u a b s t x d (lS 3 0 l k) 15) = true := by kernel_rfl
theorem d10n (u a b : Int) (s t x : ByteArray) (d : Int) : memT FW (dM 10 u a b s t x d lNS 15) = true := by kernel_rfl
end Go.Proofs.YtelkbliggjfdaaaGreatDoor

/-
  FilesNone: do on no files, in whatever world. Own work.
-/
set_option linter.unusedVariables false
set_option maxRecDepth 100000
namespace Go.Proofs.YtelkbliggjfdaaaGreatDoor
open Go Go.V Go.X Go.RowKit

/-- a slice of the world: none, or somewhere -/
def SlOK (w : World) (sv : Value) : Prop := sv = lNS ∨ ∃ b o l k, sv = .slice (some ⟨b, o, none⟩) l k ∧ b < w.heap.size

noncomputable def ansV : Value := lA [lI 4, lX [], lI 0, lI 0, lI 0, lI 0, lI 0, lNS, lNS]

theorem vr_ans {m : Ren} {v : Value} (h : VR m ansV v) : v = ansV := VR.fun h (by
  unfold ansV lA lI lX lNS
  repeat (first | exact .nil | refine .cons ?_ ?_ | constructor))

theorem do_at (r : Int) (n : Nat) (hs : ∀ (u a b : Int) (s t x : ByteArray) (d : Int) (l k : Nat), memT FW (dM r u a b s t x d (lS 3 0 l k) n) = true) (hn : ∀ (u a b : Int) (s t x : ByteArray) (d : Int), memT FW (dM r u a b s t x d lNS n) = true)
    {w : World} (hw : 3 ≤ w.heap.size) (u a b : Int) (s t x : ByteArray) (d : Int) {sv : Value} (hsv : SlOK w sv) {K : Value → World → Prop} (hk : ∀ w', Fr (fun _ => False) w w' → w.heap.size ≤ w'.heap.size → K ansV w') :
    Ret Tryz.prog 7 #[.pointer none, .agg ⟨[.int .i64 r, .int .i64 u, .int .i64 a, .int .i64 b, .string s, .string t, .string x, .int .i64 d, sv]⟩, .int .i64 7] w K := by
  rcases hsv with rfl | ⟨bl, o, l, k, rfl, hb⟩
  · have hM := mem_ok FW_ok (hn u a b s t x d)
    refine ret_mem hM (ex := [⟨0, 0, 0⟩]) rfl hw (fun a ha => ?_) (as' := [.pointer none, .agg ⟨[.int .i64 r, .int .i64 u, .int .i64 a, .int .i64 b, .string s, .string t, .string x, .int .i64 d, lNS]⟩, .int .i64 7]) ?_ ?_
    · rw [List.mem_singleton.1 ha]; exact Nat.lt_of_lt_of_le (by decide) hw
    · exact .cons .pnil (.cons (.agg (.cons (.int _ _) (.cons (.int _ _) (.cons (.int _ _) (.cons (.int _ _) (.cons (.str _) (.cons (.str _) (.cons (.str _) (.cons (.int _ _) (.cons .snil .nil)))))))))) (.cons (.int _ _) .nil))
    · intro m' v' w' hm hv hs' hf
      rw [vr_ans hv]
      exact hk w' hf hf.size
  · have hM := mem_ok FW_ok (hs u a b s t x d l far)
    refine ret_mem hM (ex := [⟨bl, o, k⟩]) rfl hw (fun a ha => ?_) (as' := [.pointer none, .agg ⟨[.int .i64 r, .int .i64 u, .int .i64 a, .int .i64 b, .string s, .string t, .string x, .int .i64 d, .slice (some ⟨bl, o, none⟩) l k]⟩, .int .i64 7]) ?_ ?_
    · rw [List.mem_singleton.1 ha]; exact hb
    · have h : VR (ren0 3 [⟨bl, o, k⟩] w) (lS 3 0 l far) (.slice (some ⟨bl, o, none⟩) l k) := by
        have := VR.sl (m := ren0 3 [⟨bl, o, k⟩] w) (b := 3) (o := 0) (n := l) (k := far) (a := ⟨bl, o, k⟩) rfl
        have e : capOf ⟨bl, o, k⟩ far = k := by have := cap_far ⟨bl, o, k⟩ 0; simpa using this
        rw [e] at this
        exact this
      exact .cons .pnil (.cons (.agg (.cons (.int _ _) (.cons (.int _ _) (.cons (.int _ _) (.cons (.int _ _) (.cons (.str _) (.cons (.str _) (.cons (.str _) (.cons (.int _ _) (.cons h .nil)))))))))) (.cons (.int _ _) .nil))
    · intro m' v' w' hm hv hs' hf
      rw [vr_ans hv]
      exact hk w' hf hf.size

end Go.Proofs.YtelkbliggjfdaaaGreatDoor

/-
  FilesNone: the law. Own work.
-/
set_option linter.unusedVariables false
set_option maxRecDepth 100000
namespace Go.Proofs.YtelkbliggjfdaaaGreatDoor
open Go Go.V Go.X Go.RowKit

theorem lives_spec {w : World} (hw : 3 ≤ w.heap.size) {K : Value → World → Prop} (hk : ∀ w', Fr (fun _ => False) w w' → K (.bool true) w') : CallK Tryz.prog 4 #[] w K :=
  Ret.call (ret_mem ml_ok (ex := []) rfl hw (fun a h => by cases h) (as' := []) .nil fun m' v' w' hm hv hs hf => by
    cases (show VR m' (.bool true) v' from hv); exact hk w' hf)

theorem one_spec {w : World} (hw : 3 ≤ w.heap.size) {K : Value → World → Prop} (hk : ∀ w', Fr (fun _ => False) w w' → K (.agg #[it 2, lNS]) w') : CallK Tryz.prog 6 #[] w K :=
  Ret.call (ret_mem n6_ok (ex := []) rfl hw (fun a h => by cases h) (as' := []) .nil fun m' v' w' hm hv hs hf => by
    rw [VR.fun (show VR m' (lA [lI 2, lNS]) v' from hv) (.agg (.cons (.int _ _) (.cons .snil .nil)))]; exact hk w' hf)

theorem boot_spec {w : World} (hw : 3 ≤ w.heap.size) {K : Value → World → Prop} (hk : ∀ w', Fr (fun _ => False) w w' → K (.tuple #[.pointer none, it 4]) w') : CallK Tryz.prog 5 #[.pointer none, .agg #[it 3, it 9], it 1, .agg #[it 2, lNS], it 9999] w K :=
  Ret.call (ret_mem n5_ok (ex := []) rfl hw (fun a h => by cases h) (as' := [.pointer none, .agg #[it 3, it 9], it 1, .agg #[it 2, lNS], it 9999])
    (.cons .pnil (.cons (.agg (.cons (.int _ _) (.cons (.int _ _) .nil))) (.cons (.int _ _) (.cons (.agg (.cons (.int _ _) (.cons .snil .nil))) (.cons (.int _ _) .nil))))) fun m' v' w' hm hv hs hf => by
    rw [VR.fun (show VR m' (lT [lNP, lI 4]) v' from hv) (.tup (.cons .pnil (.cons (.int _ _) .nil)))]; exact hk w' hf)

theorem vr_ans0 {m : Ren} : VR m ansV ansV := .agg (.cons (.int _ _) (.cons (.str _) (.cons (.int _ _) (.cons (.int _ _) (.cons (.int _ _) (.cons (.int _ _) (.cons (.int _ _) (.cons .snil (.cons .snil .nil)))))))))

theorem same_spec {w : World} (hw : 3 ≤ w.heap.size) {K : Value → World → Prop} (hk : ∀ w', Fr (fun _ => False) w w' → K (.bool true) w') : CallK Tryz.prog 8 #[ansV, ansV] w K :=
  Ret.call (ret_mem n8_ok (ex := []) rfl hw (fun a h => by cases h) (as' := [ansV, ansV]) (.cons vr_ans0 (.cons vr_ans0 .nil)) fun m' v' w' hm hv hs hf => by
    cases (show VR m' (.bool true) v' from hv); exact hk w' hf)

end Go.Proofs.YtelkbliggjfdaaaGreatDoor

/-
  FilesNone: the law, its walk. Own work.
-/
set_option linter.unusedVariables false
set_option maxRecDepth 100000
namespace Go.Proofs.YtelkbliggjfdaaaGreatDoor
open Go Go.V Go.X Go.RowKit

def opN (op : Int) : Int := IntKind.i64.wrap (1 + IntKind.i64.wrap ((IntKind.u64.wrap op).tmod 10))

theorem opN_cases (op : Int) : opN op = 1 ∨ opN op = 2 ∨ opN op = 3 ∨ opN op = 4 ∨ opN op = 5 ∨ opN op = 6 ∨ opN op = 7 ∨ opN op = 8 ∨ opN op = 9 ∨ opN op = 10 := by
  have h0 : 0 ≤ IntKind.u64.wrap op := by
    show 0 ≤ op % 18446744073709551616
    omega
  have h : ∃ n : Nat, n < 10 ∧ (IntKind.u64.wrap op).tmod 10 = n := by
    obtain ⟨k, hk⟩ := Int.eq_ofNat_of_zero_le h0
    refine ⟨k % 10, Nat.mod_lt _ (by decide), ?_⟩
    rw [hk]
    rfl
  obtain ⟨n, hn, e⟩ := h
  unfold opN
  rw [e]
  have : n = 0 ∨ n = 1 ∨ n = 2 ∨ n = 3 ∨ n = 4 ∨ n = 5 ∨ n = 6 ∨ n = 7 ∨ n = 8 ∨ n = 9 := by omega
  rcases this with rfl | rfl | rfl | rfl | rfl | rfl | rfl | rfl | rfl | rfl <;> decide

theorem SlOK.fr {F : Nat → Prop} {w w' : World} {v : Value} (h : SlOK w v) (hf : w.heap.size ≤ w'.heap.size) : SlOK w' v := by
  rcases h with h | ⟨b, o, l, k, h1, h2⟩
  · exact .inl h
  · exact .inr ⟨b, o, l, k, h1, Nat.lt_of_lt_of_le h2 hf⟩

theorem do_spec {r : Int} (hr : r = 1 ∨ r = 2 ∨ r = 3 ∨ r = 4 ∨ r = 5 ∨ r = 6 ∨ r = 7 ∨ r = 8 ∨ r = 9 ∨ r = 10) {w : World} (hw : 3 ≤ w.heap.size) (u a b : Int) (s t x : ByteArray) (d : Int) {sv : Value} (hsv : SlOK w sv) {K : Value → World → Prop}
    (hk : ∀ w', Fr (fun _ => False) w w' → w.heap.size ≤ w'.heap.size → K ansV w') :
    CallK Tryz.prog 7 #[.pointer none, .agg ⟨[.int .i64 r, .int .i64 u, .int .i64 a, .int .i64 b, .string s, .string t, .string x, .int .i64 d, sv]⟩, .int .i64 7] w K := by
  rcases hr with rfl | rfl | rfl | rfl | rfl | rfl | rfl | rfl | rfl | rfl
  · exact Ret.call (do_at 1 16 d1s d1n hw u a b s t x d hsv hk)
  · exact Ret.call (do_at 2 16 d2s d2n hw u a b s t x d hsv hk)
  · exact Ret.call (do_at 3 15 d3s d3n hw u a b s t x d hsv hk)
  · exact Ret.call (do_at 4 15 d4s d4n hw u a b s t x d hsv hk)
  · exact Ret.call (do_at 5 15 d5s d5n hw u a b s t x d hsv hk)
  · exact Ret.call (do_at 6 15 d6s d6n hw u a b s t x d hsv hk)
  · exact Ret.call (do_at 7 15 d7s d7n hw u a b s t x d hsv hk)
  · exact Ret.call (do_at 8 15 d8s d8n hw u a b s t x d hsv hk)
  · exact Ret.call (do_at 9 16 d9s d9n hw u a b s t x d hsv hk)
  · exact Ret.call (do_at 10 15 d10s d10n hw u a b s t x d hsv hk)

end Go.Proofs.YtelkbliggjfdaaaGreatDoor

/-
  FilesNone: the law, its walk, whole. Own work.
-/
set_option linter.unusedVariables false
set_option maxRecDepth 100000
namespace Go.Proofs.YtelkbliggjfdaaaGreatDoor
open Go Go.V Go.X Go.RowKit

theorem joinOne {sel : List Nat} {L : List Value} {ds : List Nat} {w : World} {a : (List Value → List Nat → World → Prop) → Prop} {b : Env → List Nat → World → Prop}
    (ha : a (fun vs ds' W => vs = L ∧ ds' = ds ∧ W = w)) (hb : ∀ ρ, sel.map ρ = L → b ρ ds w) : joinF sel a b :=
  ⟨_, ha, fun ρ ds' W ⟨h1, h2, h3⟩ => by subst h2; subst h3; exact hb ρ h1⟩

theorem b33 : (fun (K : Value → Prop) => vBuild Tryz.prog 33 [(0, .int .i64 3), (1, .int .i64 9)] K) = fun K => ((1 : Nat) = 1 ∧ (1 : Nat) = 1 ∧ K (.agg #[it 3, it 9])) := by kernel_rfl
theorem build33 {K : Value → Prop} (k : K (.agg #[it 3, it 9])) : vBuild Tryz.prog 33 [(0, .int .i64 3), (1, .int .i64 9)] K := by
  have := congrFun b33 K
  exact this ▸ ⟨rfl, rfl, k⟩
theorem b40 : (fun (K : Value → Prop) => vBuild Tryz.prog 40 [(0, .int .i64 4)] K) = fun K => ((1 : Nat) = 1 ∧ K ansV) := by kernel_rfl
theorem build40 {K : Value → Prop} (k : K ansV) : vBuild Tryz.prog 40 [(0, .int .i64 4)] K := by
  have := congrFun b40 K
  exact this ▸ ⟨rfl, k⟩
def zAns : Array Value := #[it 0, .string ⟨⟨[]⟩⟩, it 0, it 0, it 0, it 0, it 0, lNS, lNS]
theorem zc40 : zc Tryz.prog 40 = some zAns := by kernel_rfl

theorem rPtrNN {w : World} {K : Value → Prop} (k : K (.bool false)) : vPtr .neq (.pointer none) (.pointer none) w K := k

theorem law_spec {w : World} (hw : 3 ≤ w.heap.size) (op u a b : Int) (s t x : ByteArray) (d : Int) {sv : Value} (hsv : SlOK w sv) {K : Value → World → Prop} (hk : ∀ w', Fr (fun _ => False) w w' → K (.bool true) w') :
    Ret Tryz.prog 3 #[.agg ⟨[.int .i64 op, .int .i64 u, .int .i64 a, .int .i64 b, .string s, .string t, .string x, .int .i64 d, sv]⟩] w K := by
  refine F3_ok ?_
  unfold F3
  refine rBoxA fun w1 hc f1 z1 => ?_
  have h1 : 3 ≤ w1.heap.size := by omega
  refine lives_spec h1 fun w2 f2 => rNot (rBool ?_)
  rw [if_neg (by decide)]
  have h2 : 3 ≤ w2.heap.size := Nat.le_trans h1 f2.size
  refine build33 (one_spec h2 fun w3 f3 => ?_)
  have h3 : 3 ≤ w3.heap.size := Nat.le_trans h2 f3.size
  refine boot_spec h3 fun w4 f4 => ?_
  have h4 : 3 ≤ w4.heap.size := Nat.le_trans h3 f4.size
  have f14 : Fr (fun _ => False) w1 w4 := (f2.more f3).more f4
  refine rExt0 (rExt1 ?_)
  refine joinOne (L := [pt w.heap.size 0, .pointer none, .bool false]) (ds := []) (w := w4) ?_ fun ρ hρ => ?_
  · refine rPtrNN (rBool ?_)
    rw [if_neg (by decide)]
    exact rNe ⟨rfl, rfl, rfl⟩
  · simp only [List.map_cons, List.map_nil, List.cons.injEq, and_true] at hρ
    obtain ⟨e1, e2, e3⟩ := hρ
    unfold F3J1
    rw [e1, e2, e3]
    refine rBool ?_
    rw [if_neg (by decide)]
    have hc4 := hc.fr f14 (fun h => h)
    refine rFA0 (rLd hc4 (v := .int .i64 op) rfl ?_)
    refine rConvI (rRemI (by decide) (rConvI (rAddI ?_)))
    refine rFA0 (rSt hc4 (by simp) rfl (fun c e => by cases e) fun w5 up5 => ?_)
    have hc5 := up5.cs
    refine rLdN hc5 (by simp) ?_
    have f45 : Fr (fun _ => False) w w5 := (f1.more f14).trans up5.fr fun k hk e => by omega
    have h5 : 3 ≤ w5.heap.size := Nat.le_trans hw f45.size
    refine do_spec (opN_cases op) h5 u a b s t x d (SlOK.fr (F := fun _ => False) hsv f45.size) fun w6 f6 _ => ?_
    have h6 : 3 ≤ w6.heap.size := Nat.le_trans h5 f6.size
    refine rAllocT zc40 fun w7 hb7 f7 z7 => ?_
    have hc7 : Cs w7 w6.heap.size zAns.toList := ⟨40, by rw [Array.toArray_toList]; exact hb7⟩
    refine rStN hc7 rfl (by decide) (by decide) fun w8 up8 => ?_
    refine rLdN up8.cs (by simp [spl, zAns]) ?_
    refine build40 ?_
    have f08 : Fr (fun _ => False) w w8 := ((f45.more f6).more f7).trans up8.fr fun k hk e => by
      have := (f45.more f6).size
      omega
    have h8 : 3 ≤ w8.heap.size := Nat.le_trans hw f08.size
    refine same_spec h8 fun w9 f9 => ?_
    exact hk w9 (f08.more f9)

end Go.Proofs.YtelkbliggjfdaaaGreatDoor
