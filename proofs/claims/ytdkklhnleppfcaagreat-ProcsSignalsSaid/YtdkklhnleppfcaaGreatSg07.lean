/-
  The engine, part Y1: groups and families of assertions, maps with integer keys as assertions. Own work; generic in the program.
-/
import Derived.Test.YtdkklhnleppfcaaGreatSg06
set_option linter.unusedVariables false
set_option linter.unusedSimpArgs false

set_option linter.unusedVariables false
set_option linter.unusedSimpArgs false
namespace Go.V
open Go Go.RowKit

def As.emp : As := ⟨fun _ => False, fun _ => True, fun _ _ _ h => h.elim, fun _ _ _ _ _ _ => trivial⟩

def Apart (L : List As) : Prop := L.Pairwise fun a b => ∀ k, a.foot k → ¬ b.foot k

def As.all (L : List As) : As where
  foot k := ∃ a ∈ L, a.foot k
  holds w := (∀ a ∈ L, a.holds w) ∧ Apart L
  lt w h k := fun ⟨a, ha, hk⟩ => a.lt w (h.1 a ha) k hk
  fr w w' F h f hn := ⟨fun a ha => a.fr w w' F (h.1 a ha) f (fun k hk => hn k ⟨a, ha, hk⟩), h.2⟩

def As.fam {α : Type} (T : Int → Option α) (as : Int → α → As) : As where
  foot k := ∃ n a, T n = some a ∧ (as n a).foot k
  holds w := (∀ n a, T n = some a → (as n a).holds w) ∧ ∀ n m a b, n ≠ m → T n = some a → T m = some b → ∀ k, (as n a).foot k → ¬ (as m b).foot k
  lt w h k := fun ⟨n, a, ha, hk⟩ => (as n a).lt w (h.1 n a ha) k hk
  fr w w' F h f hn := ⟨fun n a ha => (as n a).fr w w' F (h.1 n a ha) f (fun k hk => hn k ⟨n, a, ha, hk⟩), h.2⟩

def upF {α : Type} (f : Int → Option α) (n : Int) (x : Option α) : Int → Option α := fun k => if k = n then x else f k
theorem upF_same {α : Type} (f : Int → Option α) (n : Int) (x : Option α) : upF f n x n = x := if_pos rfl
theorem upF_ne {α : Type} (f : Int → Option α) {n k : Int} (x : Option α) (h : k ≠ n) : upF f n x k = f k := if_neg h
theorem upF_up {α : Type} (f : Int → Option α) (n : Int) (x y : Option α) : upF (upF f n x) n y = upF f n y := by
  funext k; unfold upF; split <;> rfl
theorem upF_id {α : Type} (f : Int → Option α) (n : Int) {x : Option α} (h : f n = x) : upF f n x = f := by
  funext k; unfold upF; split
  · rename_i e; rw [e, h]
  · rfl

section
variable {P : Program} {F : Nat → Prop} {w0 w w' : World} {L : List As}

theorem Apart.set (h : Apart L) {i : Nat} {X : As} (hX : ∀ j b, j ≠ i → L[j]? = some b → ∀ k, X.foot k → ¬ b.foot k) : Apart (L.set i X) := by
  unfold Apart at h ⊢
  rw [List.pairwise_iff_getElem] at h ⊢
  intro x y hx hy hxy k hk1 hk2
  rw [List.length_set] at hx hy
  rw [List.getElem_set] at hk1 hk2
  split at hk1
  · rename_i e1
    split at hk2
    · omega
    · rename_i e2
      exact hX y _ (fun e => e2 e.symm) (List.getElem?_eq_getElem hy) k hk1 hk2
  · rename_i e1
    split at hk2
    · exact hX x _ (fun e => e1 e.symm) (List.getElem?_eq_getElem hx) k hk2 hk1
    · exact h x y hx hy hxy k hk1 hk2

theorem mem_set_cases {α : Type} {L : List α} {i : Nat} {X a : α} (h : a ∈ L.set i X) : a = X ∨ ∃ j, j ≠ i ∧ L[j]? = some a := by
  obtain ⟨j, hj⟩ := List.mem_iff_getElem?.1 h
  rw [List.getElem?_set] at hj
  split at hj
  · split at hj
    · cases hj; exact .inl rfl
    · cases hj
  · rename_i e; exact .inr ⟨j, fun e' => e e'.symm, hj⟩

theorem Lx.set (h : Lx F w0 w L) {i : Nat} {X : As} (ho : X.holds w) (hm : ∀ k, X.foot k → F k ∨ w0.heap.size ≤ k) (hX : ∀ j b, j ≠ i → L[j]? = some b → ∀ k, X.foot k → ¬ b.foot k) : Lx F w0 w (L.set i X) := by
  refine ⟨h.fr, fun a ha => ?_, fun a ha => ?_, Apart.set h.dj hX⟩
  · rcases mem_set_cases ha with rfl | ⟨j, _, hj⟩
    · exact ho
    · exact h.get hj
  · rcases mem_set_cases ha with rfl | ⟨j, _, hj⟩
    · exact hm
    · exact h.mine a (List.mem_of_getElem? hj)

theorem Lx.opens (h : Lx F w0 w L) {i : Nat} {M : List As} (hi : L[i]? = some (.all M)) : Lx F w0 w (M ++ L.set i .emp) := by
  have hh : (∀ a ∈ M, a.holds w) ∧ Apart M := h.get hi
  have h0 : Lx F w0 w (L.set i .emp) := h.step (a' := .emp) hi (Fr.refl _ w) trivial (fun k hk => hk.elim)
  have hm := List.mem_of_getElem? hi
  refine ⟨h.fr, ?_, ?_, ?_⟩
  · intro a ha
    rcases List.mem_append.1 ha with ha | ha
    · exact hh.1 a ha
    · exact h0.ok a ha
  · intro a ha k hk
    rcases List.mem_append.1 ha with ha | ha
    · exact h.mine _ hm k ⟨a, ha, hk⟩
    · exact h0.mine a ha k hk
  · refine List.pairwise_append.2 ⟨hh.2, h0.dj, fun a ha b hb k hk hk2 => ?_⟩
    rcases mem_set_cases hb with rfl | ⟨j, hn, hj⟩
    · exact hk2
    · exact pair_other h.dj hi hj (fun e => hn e.symm) k ⟨a, ha, hk⟩ hk2

theorem Lx.close {M : List As} (h : Lx F w0 w (M ++ L)) (i : Nat) : Lx F w0 w (L.set i (.all M)) := by
  obtain ⟨h1, h2, h3⟩ := List.pairwise_append.1 h.dj
  have hL : Lx F w0 w L := h.sub (List.sublist_append_right _ _)
  refine hL.set ⟨fun a ha => h.ok a (List.mem_append_left _ ha), h1⟩ (fun k ⟨a, ha, hk⟩ => h.mine a (List.mem_append_left _ ha) k hk) ?_
  rintro j b hn hj k ⟨a, ha, hk⟩ hk2
  exact h3 a ha b (List.mem_of_getElem? hj) k hk hk2

theorem Lx.focus {α : Type} {T : Int → Option α} {A : Int → α → As} (h : Lx F w0 w L) {i : Nat} (hi : L[i]? = some (.fam T A)) {n : Int} {a : α} (hn : T n = some a) : Lx F w0 w (A n a :: L.set i (.fam (upF T n none) A)) := by
  have hh : (As.fam T A).holds w := h.get hi
  have hm := List.mem_of_getElem? hi
  have sub : ∀ m b, upF T n none m = some b → m ≠ n ∧ T m = some b := by
    intro m b hb
    unfold upF at hb
    split at hb
    · cases hb
    · exact ⟨by assumption, hb⟩
  have h0 : Lx F w0 w (L.set i (.fam (upF T n none) A)) := by
    refine h.step (a' := .fam (upF T n none) A) hi (Fr.refl _ w) ⟨fun m b hb => hh.1 m b (sub m b hb).2, fun m m' b b' hne hb hb' => hh.2 m m' b b' hne (sub m b hb).2 (sub m' b' hb').2⟩ ?_
    rintro k ⟨m, b, hb, hk⟩
    exact .inl ⟨m, b, (sub m b hb).2, hk⟩
  refine ⟨h.fr, ?_, ?_, ?_⟩
  · intro x hx
    rcases List.mem_cons.1 hx with rfl | hx
    · exact hh.1 n a hn
    · exact h0.ok x hx
  · intro x hx k hk
    rcases List.mem_cons.1 hx with rfl | hx
    · exact h.mine _ hm k ⟨n, a, hn, hk⟩
    · exact h0.mine x hx k hk
  · refine List.pairwise_cons.2 ⟨fun x hx k hk hk2 => ?_, h0.dj⟩
    rcases mem_set_cases hx with rfl | ⟨j, hne, hj⟩
    · obtain ⟨m, b, hb, hk2⟩ := hk2
      exact hh.2 n m a b (fun e => (sub m b hb).1 e.symm) hn (sub m b hb).2 k hk hk2
    · exact pair_other h.dj hi hj (fun e => hne e.symm) k ⟨n, a, hn, hk⟩ hk2

theorem Lx.unfocus {α : Type} {T : Int → Option α} {A : Int → α → As} {n : Int} {a : α} (h : Lx F w0 w (A n a :: L)) {i : Nat} (hi : L[i]? = some (.fam T A)) (hn : T n = none) : Lx F w0 w (L.set i (.fam (upF T n (some a)) A)) := by
  have hL : Lx F w0 w L := h.sub (List.sublist_cons_self _ _)
  have hh : (As.fam T A).holds w := hL.get hi
  have hm := List.mem_of_getElem? hi
  have ha := h.ok _ (List.mem_cons_self (a := A n a))
  have hd := (List.pairwise_cons.1 h.dj).1
  have sub : ∀ m b, upF T n (some a) m = some b → (m = n ∧ b = a) ∨ (m ≠ n ∧ T m = some b) := by
    intro m b hb
    unfold upF at hb
    split at hb
    · cases hb; exact .inl ⟨by assumption, rfl⟩
    · exact .inr ⟨by assumption, hb⟩
  refine hL.set ⟨fun m b hb => ?_, fun m m' b b' hne hb hb' k hk hk2 => ?_⟩ (fun k ⟨m, b, hb, hk⟩ => ?_) (fun j b hne hj k ⟨m, c, hc, hk⟩ hk2 => ?_)
  · rcases sub m b hb with ⟨rfl, rfl⟩ | ⟨_, hb⟩
    · exact ha
    · exact hh.1 m b hb
  · rcases sub m b hb with ⟨rfl, rfl⟩ | ⟨h1, hc⟩
    · rcases sub m' b' hb' with ⟨rfl, rfl⟩ | ⟨_, hc'⟩
      · exact hne rfl
      · exact hd _ hm k hk ⟨m', b', hc', hk2⟩
    · rcases sub m' b' hb' with ⟨rfl, rfl⟩ | ⟨_, hc'⟩
      · exact hd _ hm k hk2 ⟨m, b, hc, hk⟩
      · exact hh.2 m m' b b' hne hc hc' k hk hk2
  · rcases sub m b hb with ⟨rfl, rfl⟩ | ⟨_, hb⟩
    · exact h.mine _ List.mem_cons_self k hk
    · exact hL.mine _ hm k ⟨m, b, hb, hk⟩
  · rcases sub m c hc with ⟨rfl, rfl⟩ | ⟨_, hc⟩
    · exact hd b (List.mem_of_getElem? hj) k hk hk2
    · exact pair_other hL.dj hi hj (fun e => hne e.symm) k ⟨m, c, hc, hk⟩ hk2

def MapF (w : World) (b n : Nat) (f : Int → Option Value) : Prop := ∃ es c ks, w.heap[b]? = some (.map es c) ∧ MapI .i64 es c ks ∧ ks.length = n ∧ ∀ k, getI k ks = f k
theorem MapF.fr {b n : Nat} {f : Int → Option Value} {G : Nat → Prop} (h : MapF w b n f) (hf : Fr G w w') (hn : ¬ G b) : MapF w' b n f := by
  obtain ⟨es, c, ks, h1, h2⟩ := h
  exact ⟨es, c, ks, hf.get h1 hn, h2⟩
def As.mi (b n : Nat) (f : Int → Option Value) : As := ⟨fun k => k = b, fun w => MapF w b n f, fun w ⟨es, c, ks, h, _⟩ k e => by subst e; exact lt_of_blk h, fun w w' G h hf hn => h.fr hf (hn b rfl)⟩

theorem MapF.look {t kt et : TypeId} {z : Value} (hu : P.underlying t = some (.map kt et)) (hk : P.underlying kt = some (.int .i64)) (hz : (P.info? et).bind (·.zero) = some z) {b n : Nat} {f : Int → Option Value} {key : Int} {ok : Bool} {K : Value → Prop}
    (h : MapF w b n f) (k1 : ∀ v, f key = some v → K (if ok then .tuple #[v, .bool true] else v)) (k2 : f key = none → K (if ok then .tuple #[z, .bool false] else z)) : vLookup P t (.map (some b)) (it key) ok w K := by
  obtain ⟨es, c, ks, h1, h2, h3, h4⟩ := h
  unfold vLookup
  simp only [hu]
  unfold vLookI
  refine ⟨hk, ?_⟩
  rw [h1]
  refine ⟨ks, h2, ?_⟩
  rw [h4]
  cases hf : f key with
  | none => unfold zeroK; rw [hz]; exact k2 hf
  | some v => exact k1 v hf

end

end Go.V

/-
  The engine, part Y2: rows of m cells an element, that may begin within their block and whose capacity is at most what is there. Own work; generic in the program.
-/
set_option linter.unusedVariables false
set_option linter.unusedSimpArgs false
namespace Go.V
open Go Go.RowKit

def RowW (m : Nat) (w : World) (v : Value) (n : Nat) (cs : List Value) (bl : Option Nat) : Prop :=
  cs.length = n * m ∧ match bl with
  | none => v = .slice none 0 0 ∧ n = 0
  | some l => ∃ (off c : Nat) (pre rest : List Value), v = .slice (some ⟨l, off, none⟩) n c ∧ Cs w l (pre ++ cs ++ rest) ∧ n ≤ c ∧ c * m ≤ n * m + rest.length ∧ (c = 0 ∨ off = pre.length) ∧ off ≤ pre.length

section
variable {P : Program} {m n : Nat} {w w' : World} {v : Value} {cs : List Value} {bl : Option Nat}

theorem RowW.fr {F : Nat → Prop} (h : RowW m w v n cs bl) (hf : Fr F w w') (hF : ∀ k, bl = some k → ¬ F k) : RowW m w' v n cs bl := by
  refine ⟨h.1, ?_⟩
  cases bl with
  | none => exact h.2
  | some l => obtain ⟨o, c, p, r, h1, h2, h3⟩ := h.2; exact ⟨o, c, p, r, h1, h2.fr hf (hF l rfl), h3⟩
theorem RowW.more (h : RowW m w v n cs bl) (hf : Fr (fun _ => False) w w') : RowW m w' v n cs bl := h.fr hf fun _ _ => id
theorem RowW.lt (h : RowW m w v n cs bl) : ∀ k, bl = some k → k < w.heap.size := by
  rintro k rfl
  obtain ⟨_, _, _, _, _, h, _⟩ := h.2
  exact h.lt
theorem RowW.shape (h : RowW m w v n cs bl) : ∃ a c, v = .slice a n c := by
  cases bl with
  | none => obtain ⟨_, rfl, rfl⟩ := h; exact ⟨none, 0, rfl⟩
  | some l => obtain ⟨o, c, p, r, h1, _⟩ := h.2; exact ⟨_, _, h1⟩
theorem RowW.one (h : RowW m w v n cs bl) : v.oneCell' = true ∧ ∀ c, v ≠ .agg c := by
  obtain ⟨a, c, rfl⟩ := h.shape
  exact ⟨rfl, by simp⟩
theorem RowW.lenE {es : Nat} (h : RowW m w v n cs bl) {K : Value → Prop} (k : K (it n)) : vLen (.slice es) v K := by
  obtain ⟨a, c, rfl⟩ := h.shape
  exact k
theorem RowW.nil (m : Nat) (w : World) : RowW m w (.slice none 0 0) 0 [] none := ⟨by simp, rfl, rfl⟩
theorem mid_cell {pre cs rest : List Value} {j : Nat} {x : Value} (h : cs[j]? = some x) : (pre ++ cs ++ rest)[pre.length + j]? = some x := by
  have hj := (List.getElem?_eq_some_iff.1 h).1
  rw [List.append_assoc, List.getElem?_append_right (by omega), Nat.add_sub_cancel_left, List.getElem?_append_left hj]
  exact h

theorem RowW.src (h : RowW m w v n cs bl) : lenV v = n ∧ ∀ K : List Value → Prop, K cs → srcV m n v w K := by
  obtain ⟨hl, h⟩ := h
  cases bl with
  | none =>
    obtain ⟨rfl, rfl⟩ := h
    have : cs = [] := List.length_eq_zero_iff.1 (by rw [hl, Nat.zero_mul])
    subst this
    exact ⟨rfl, fun K k => ⟨rfl, k⟩⟩
  | some l =>
    obtain ⟨off, c, pre, rest, rfl, h2, h3, h4, h5, h6⟩ := h
    refine ⟨rfl, fun K k => ⟨cs, hl, fun j x hj => ?_, k⟩⟩
    rw [addr_add]
    rcases h5 with h5 | h5
    · have : n = 0 := by omega
      subst this
      have : cs = [] := List.length_eq_zero_iff.1 (by rw [hl, Nat.zero_mul])
      subst this
      simp at hj
    · rw [h5]
      exact h2.cell (mid_cell hj)

theorem RowW.at (h : RowW m w v n cs bl) {i : Nat} (hi : i < n) {kd : IntKind} {K : Value → Prop}
    (k : ∀ l off all, bl = some l → Cs w l all → (∀ j x, cs[j]? = some x → all[off + j]? = some x) → off + cs.length ≤ all.length → ((all.drop off).take cs.length = cs) → K (pt l (off + i * m))) : vIA (.slice m) v (.int kd i) K := by
  obtain ⟨hl, h⟩ := h
  cases bl with
  | none => obtain ⟨rfl, rfl⟩ := h; omega
  | some l =>
    obtain ⟨off, c, pre, rest, rfl, h2, h3, h4, h5, h6⟩ := h
    have h5 : off = pre.length := by
      rcases h5 with h5 | h5
      · omega
      · exact h5
    refine ⟨by omega, by omega, ?_⟩
    rw [addr_add, Int.toNat_natCast]
    refine k l off _ rfl h2 (fun j x hj => by rw [h5]; exact mid_cell hj) (by simp; omega) ?_
    rw [h5, List.append_assoc, List.drop_left, List.take_left]

theorem RowW.rd1 (h : RowW 1 w v n cs bl) {i : Nat} {x : Value} (hx : cs[i]? = some x) {kd : IntKind} {K : Value → Prop} (k : K x) : vIA (.slice 1) v (.int kd i) fun p => vLd .one p w K := by
  have hi : i < n := by have := (List.getElem?_eq_some_iff.1 hx).1; have := h.1; omega
  refine h.at hi fun l off all _ hc hj _ _ => ?_
  rw [Nat.mul_one]
  exact rLd hc (hj i x hx) k
theorem RowW.rd1S {S : World → Prop} (h : RowW 1 w v n cs bl) (hS : ∀ W, S W → RowW 1 W v n cs bl) {i : Nat} {x : Value} (hx : cs[i]? = some x) {kd : IntKind} {K : Value → Prop} (k : K x) : vIA (.slice 1) v (.int kd i) fun p => vLdS S .one p K := by
  have hi : i < n := by have := (List.getElem?_eq_some_iff.1 hx).1; have := h.1; omega
  obtain ⟨hl, h⟩ := h
  cases bl with
  | none => obtain ⟨rfl, rfl⟩ := h; omega
  | some l =>
    obtain ⟨off, c, pre, rest, rfl, h2, h3, h4, h5, h6⟩ := h
    refine ⟨by omega, by omega, ?_⟩
    rw [addr_add, Int.toNat_natCast, Nat.mul_one]
    refine rLdS x (fun W hW => ?_) k
    obtain ⟨_, off', c', pre', rest', e, h2', h3', h4', h5', h6'⟩ := hS W hW
    simp only [Value.slice.injEq, Option.some.injEq, Addr.mk.injEq, true_and, and_true] at e
    obtain ⟨e1, e2⟩ := e
    have h5' : off' = pre'.length := by
      rcases h5' with h5' | h5'
      · omega
      · exact h5'
    exact ⟨_, h2', by rw [e1, h5']; exact mid_cell hx⟩
theorem RowW.cutlo (h : RowW m w v n cs bl) {lo : Nat} (hlo : lo ≤ n) {kd : IntKind} {K : Value → Prop} (k : ∀ v', RowW m w v' (n - lo) (cs.drop (lo * m)) bl → K v') : vSlice (.slice m) v (some (.int kd lo)) none K := by
  have hl := h.1
  have hlen : (cs.drop (lo * m)).length = (n - lo) * m := by rw [List.length_drop, hl, Nat.sub_mul]
  cases bl with
  | none =>
    obtain ⟨_, rfl, rfl⟩ := h
    have : lo = 0 := by omega
    subst this
    refine ⟨by omega, by omega, ?_⟩
    exact k _ ⟨by simpa using hlen, rfl, rfl⟩
  | some l =>
    obtain ⟨_, off, c, pre, rest, rfl, h2, h3, h4, h5, h6⟩ := h
    refine ⟨by omega, by omega, ?_⟩
    simp only [Int.toNat_natCast]
    have hsplit : pre ++ cs ++ rest = (pre ++ cs.take (lo * m)) ++ cs.drop (lo * m) ++ rest := by
      conv => lhs; rw [← List.take_append_drop (lo * m) cs]
      simp only [List.append_assoc]
    have hlom : lo * m ≤ n * m := Nat.mul_le_mul_right _ hlo
    have htl : (cs.take (lo * m)).length = lo * m := by rw [List.length_take, hl]; omega
    have hc' : (c - lo) * m ≤ (n - lo) * m + rest.length := by rw [Nat.sub_mul, Nat.sub_mul]; omega
    by_cases e : c = lo
    · rw [if_pos e]
      refine k _ ⟨hlen, off, c - lo, pre ++ cs.take (lo * m), rest, rfl, by rw [← hsplit]; exact h2, by omega, hc', .inl (by omega), by rw [List.length_append]; omega⟩
    · rw [if_neg e]
      simp only [Option.map_some, addr_add]
      refine k _ ⟨hlen, off + lo * m, c - lo, pre ++ cs.take (lo * m), rest, rfl, by rw [← hsplit]; exact h2, by omega, hc', .inr ?_, ?_⟩
      · rw [List.length_append, htl]
        rcases h5 with h5 | h5
        · omega
        · omega
      · rw [List.length_append, htl]; omega

structure EW (P : Program) (t e : TypeId) (m : Nat) : Prop where
  ht : P.underlying t = some (.slice e)
  hi : ∃ i z, P.info? e = some i ∧ i.size = m ∧ i.bytes ≤ 64 ∧ zc P e = some z ∧ z.size = m
  hu : srcK P t = true

theorem EW.of {P : Program} {t e : TypeId} {m : Nat} (ht : P.underlying t = some (.slice e)) (hi : (P.info? e).map (fun i => (i.size, Nat.ble i.bytes 64)) = some (m, true)) (hz : (zc P e).map (·.size) = some m) (hu : srcK P t = true) : EW P t e m := by
  obtain ⟨i, h1, h2, h3⟩ := infoOf64 hi
  obtain ⟨z, h4, h5⟩ := Option.map_eq_some_iff.1 hz
  exact ⟨ht, ⟨i, z, h1, h2, h3, h4, h5⟩, hu⟩

theorem EW.app {t e u : TypeId} (E : EW P t e m) (hu : srcK P u = true) {s x : Value} {k : Nat} {ys : List Value} {K : Value → World → Prop} (hs : RowW m w s n cs bl) (hx : lenV x = k) (hsrc : ∀ K : List Value → Prop, K ys → srcV m k x w K) (hy : ys.length = k * m) (hone : ∀ y ∈ ys, y.oneCell' = true) (hb : n + k ≤ 4194304)
    (hK : ∀ w' v' bl', RowW m w' v' (n + k) (cs ++ ys) bl' → Fr (fun q => bl = some q) w w' → (∀ q, bl' = some q → bl = some q ∨ w.heap.size ≤ q) → (bl ≠ none → bl' ≠ none) → K v' w') : vAppend P t u s x w K := by
  obtain ⟨i, z, hi, his, hib, hz, hzs⟩ := E.hi
  have hsrc0 := hs.src
  have hlen : (cs ++ ys).length = (n + k) * m := by rw [List.length_append, hs.1, hy, Nat.add_mul]
  have hbytes : (n + k) * i.bytes ≤ 140737488355328 := Nat.le_trans (Nat.mul_le_mul hb hib) (by omega)
  have grow : ∀ (c : Nat), n + k ≤ c → K (.slice (some ⟨w.heap.size, 0, none⟩) (n + k) c) (w.drew.alloc (.cells (cs ++ ys ++ repZ z.toList (c - (n + k))).toArray e)) := by
    intro c hc
    refine hK _ _ (some w.heap.size) ⟨hlen, 0, c, [], repZ z.toList (c - (n + k)), rfl, ⟨e, World.alloc_heap_new w.drew _⟩, hc, ?_, .inr rfl, Nat.le_refl _⟩ ((Fr.refl _ w).drew.alloc _) (fun q hq => by cases hq; exact .inr (Nat.le_refl _)) (by simp)
    rw [repZ_len (by rw [Array.length_toList, hzs]), ← Nat.add_mul]
    have : n + k + (c - (n + k)) = c := by omega
    rw [this]; exact Nat.le_refl _
  obtain ⟨hl, hs⟩ := hs
  unfold vAppend
  cases bl with
  | none =>
    obtain ⟨rfl, rfl⟩ := hs
    have e0 : cs = [] := List.length_eq_zero_iff.1 (by rw [hl, Nat.zero_mul])
    subst e0
    simp only [E.ht, hi, hz, hu, his, hx]
    refine ⟨hzs, hsrc _ ⟨fun h => ?_, fun h => ⟨hbytes, by omega, hsrc0.2 _ fun c hc => grow c hc⟩⟩⟩
    have hk : k = 0 := by omega
    subst hk
    have : ys = [] := List.length_eq_zero_iff.1 (by rw [hy, Nat.zero_mul])
    subst this
    exact hK w _ none ⟨by simp, rfl, rfl⟩ (Fr.refl _ _) (by simp) (by simp)
  | some l =>
    obtain ⟨off, c, pre, rest, rfl, ⟨T, h2⟩, h3, h4, h5, h6⟩ := hs
    simp only [E.ht, hi, hz, hu, his, hx]
    refine ⟨hzs, hsrc _ ⟨fun h => ?_, fun h => ⟨hbytes, by omega, hsrc0.2 _ fun c hc => grow c hc⟩⟩⟩
    simp only [stMaybe, addr_add]
    unfold stN
    simp only [h2]
    have hkc : (n + k) * m ≤ c * m := Nat.mul_le_mul_right _ h
    rw [Nat.add_mul] at hkc
    have hyr : ys.length ≤ rest.length := by rw [hy]; omega
    refine ⟨trivial, ?_, by simp, hone, ?_⟩
    · simp only [List.size_toArray, List.length_append]
      omega
    · refine hK _ _ (some l) ⟨hlen, off, c, pre, rest.drop ys.length, rfl, ⟨T, ?_⟩, h, ?_, h5, h6⟩ ((Fr.refl _ w).put _ fun _ => rfl) (fun q hq => .inl hq) (by simp)
      · rw [World.putObj_heap_same (lt_of_blk h2)]
        congr 3
        rcases h5 with h5 | h5
        · have hk : k = 0 := by omega
          have hn : n = 0 := by omega
          subst hk; subst hn
          have : ys = [] := List.length_eq_zero_iff.1 (by rw [hy, Nat.zero_mul])
          subst this
          simp [spl]
        · rw [h5, ← hl]
          have e1 : (pre ++ cs ++ rest).take (pre.length + cs.length) = pre ++ cs := by rw [← List.length_append, List.take_left]
          have e2 : (pre ++ cs ++ rest).drop (pre.length + cs.length + ys.length) = rest.drop ys.length := by rw [← List.length_append, ← List.drop_drop, List.drop_left]
          show (spl (pre ++ cs ++ rest) (pre.length + cs.length) ys) = _
          unfold spl
          rw [e1, e2]
          simp only [List.append_assoc]
      · rw [List.length_drop, Nat.add_mul, hy]; omega

end

def As.rw (m : Nat) (v : Value) (n : Nat) (cs : List Value) (bl : Option Nat) : As := ⟨fun k => bl = some k, fun w => RowW m w v n cs bl, fun w h k e => h.lt k e, fun w w' F h f hn => h.fr f hn⟩

section
variable {P : Program} {F : Nat → Prop} {w0 w w' : World} {L : List As}
theorem Lx.rw (h : Lx F w0 w L) {i m n : Nat} {v : Value} {cs : List Value} {bl : Option Nat} (hi : L[i]? = some (.rw m v n cs bl)) : RowW m w v n cs bl := h.get hi

theorem sAppW {t e u : TypeId} {m : Nat} (E : EW P t e m) (hu : srcK P u = true) {i n k : Nat} {s x : Value} {cs ys : List Value} {bl : Option Nat} {K : Value → World → Prop} (h : Lx F w0 w L) (hi : L[i]? = some (.rw m s n cs bl)) (hx : lenV x = k) (hsrc : ∀ K : List Value → Prop, K ys → srcV m k x w K) (hy : ys.length = k * m) (hone : ∀ y ∈ ys, y.oneCell' = true) (hb : n + k ≤ 4194304)
    (hK : ∀ w' v' bl', Lx F w0 w' (L.set i (.rw m v' (n + k) (cs ++ ys) bl')) → K v' w') : vAppend P t u s x w K :=
  E.app hu (h.rw hi) hx hsrc hy hone hb fun w' v' bl' hr f hbl hne => hK w' v' bl' (h.step (a' := .rw m v' (n + k) (cs ++ ys) bl') hi f hr hbl)

theorem Lx.newRw (h : Lx F w0 w L) {m n : Nat} {v : Value} {cs : List Value} {bl : Option Nat} (hr : RowW m w' v n cs bl) (hb : ∀ q, bl = some q → w.heap.size ≤ q) (f : Fr (fun _ => False) w w') : Lx F w0 w' (.rw m v n cs bl :: L) :=
  h.add (a := .rw m v n cs bl) f hr (fun k e => hb k e)
end

def RowR (w : World) (v : Value) (xs : List Value) (bl : Option Nat) : Prop :=
  match bl with
  | none => v = .slice none 0 0 ∧ xs = []
  | some l => ∃ (rest : List Value) (c : Nat), v = sv l xs.length c ∧ Cs w l (xs ++ rest) ∧ xs.length ≤ c ∧ c ≤ xs.length + rest.length

end Go.V

/-
  THE EXECUTOR, part 1: values whose addresses are numbers of its own, and the operations that ask nothing of the world. Own work; generic in the program.
-/
set_option linter.unusedVariables false
namespace Go.X
open Go Go.V Go.RowKit

structure At where
  blk : Nat
  off : Nat
  extra : Nat

structure Ren where
  f : Nat → Option At
  w0 : World
  F : Nat → Prop
  /-- names that stand for nothing as yet -/
  R : Nat → Prop
  /-- what loops over functions began as, by their blocks -/
  lp : Nat → Option Loop

instance : CoeFun Ren fun _ => Nat → Option At := ⟨Ren.f⟩

def far : Nat := 18446744073709551616

def capOf (a : At) (k : Nat) : Nat := bif Nat.blt k far then k else k - far + a.extra

mutual
inductive VR (m : Ren) : Value → Value → Prop
  | bool (b : Bool) : VR m (.bool b) (.bool b)
  | int (k : IntKind) (n : Int) : VR m (.int k n) (.int k n)
  | str (s : ByteArray) : VR m (.string s) (.string s)
  | pnil : VR m (.pointer none) (.pointer none)
  | snil : VR m (.slice none 0 0) (.slice none 0 0)
  | mnil : VR m (.map none) (.map none)
  | fnil : VR m .nilFunc .nilFunc
  | inil : VR m .nilIface .nilIface
  | ptr {b o : Nat} {a : At} (h : m b = some a) : VR m (.pointer (some ⟨b, o, none⟩)) (.pointer (some ⟨a.blk, a.off + o, none⟩))
  | sl {b o n k : Nat} {a : At} (h : m b = some a) : VR m (.slice (some ⟨b, o, none⟩) n k) (.slice (some ⟨a.blk, a.off + o, none⟩) n (capOf a k))
  | map {b : Nat} {a : At} (h : m b = some a) : VR m (.map (some b)) (.map (some a.blk))
  | iface {t : TypeId} {x y : Value} (h : VR m x y) : VR m (.iface t x) (.iface t y)
  | fn {g : FuncId} {f f' c c' : List Value} (h1 : VRs m f f') (h2 : VRs m c c') : VR m (.func (.func g) ⟨f⟩ ⟨c⟩) (.func (.func g) ⟨f'⟩ ⟨c'⟩)
  | yld {l : Nat} {a : At} (h : m l = some a) : VR m (.func (.yield l) #[] #[]) (.func (.yield a.blk) #[] #[])
  | agg {xs ys : List Value} (h : VRs m xs ys) : VR m (.agg ⟨xs⟩) (.agg ⟨ys⟩)
  | tup {xs ys : List Value} (h : VRs m xs ys) : VR m (.tuple ⟨xs⟩) (.tuple ⟨ys⟩)
  /-- an empty slice at the end of what is told: d further, if there is more -/
  | edge {b o d k : Nat} {a : At} (h : m b = some a) : VR m (.slice (some ⟨b, o, some d⟩) 0 k) (.slice (some ⟨a.blk, a.off + o + (if capOf a k = 0 then 0 else d), none⟩) 0 (capOf a k))
inductive VRs (m : Ren) : List Value → List Value → Prop
  | nil : VRs m [] []
  | cons {x y : Value} {xs ys : List Value} (h : VR m x y) (hs : VRs m xs ys) : VRs m (x :: xs) (y :: ys)
end

structure Ren.le (m m' : Ren) : Prop where
  at_ : ∀ b a, m b = some a → m' b = some a
  w0 : m'.w0 = m.w0
  F : m'.F = m.F
  R : m'.R = m.R
  lp : ∀ c r, m.lp c = some r → m'.lp c = some r

theorem Ren.le.refl (m : Ren) : m.le m := ⟨fun _ _ h => h, rfl, rfl, rfl, fun _ _ h => h⟩
theorem Ren.le.trans {m m' m'' : Ren} (h : m.le m') (h' : m'.le m'') : m.le m'' := ⟨fun b a hb => h'.at_ b a (h.at_ b a hb), h'.w0.trans h.w0, h'.F.trans h.F, h'.R.trans h.R, fun c r hc => h'.lp c r (h.lp c r hc)⟩

structure Ren.sub (m m' : Ren) : Prop where
  at_ : ∀ b a, m b = some a → m' b = some a
  lp : ∀ c r, m.lp c = some r → m'.lp c = some r

theorem Ren.le.sub {m m' : Ren} (h : m.le m') : m.sub m' := ⟨h.at_, h.lp⟩

mutual
theorem VR.imp {m m' : Ren} (h : ∀ b a, m b = some a → m' b = some a) : ∀ {x y : Value}, VR m x y → VR m' x y
  | _, _, .bool b => .bool b
  | _, _, .int k n => .int k n
  | _, _, .str s => .str s
  | _, _, .pnil => .pnil
  | _, _, .snil => .snil
  | _, _, .mnil => .mnil
  | _, _, .fnil => .fnil
  | _, _, .inil => .inil
  | _, _, .ptr hb => .ptr (h _ _ hb)
  | _, _, .sl hb => .sl (h _ _ hb)
  | _, _, .map hb => .map (h _ _ hb)
  | _, _, .iface hx => .iface (VR.imp h hx)
  | _, _, .fn h1 h2 => .fn (VRs.imp h h1) (VRs.imp h h2)
  | _, _, .yld hb => .yld (h _ _ hb)
  | _, _, .agg hs => .agg (VRs.imp h hs)
  | _, _, .tup hs => .tup (VRs.imp h hs)
  | _, _, .edge hb => .edge (h _ _ hb)
theorem VRs.imp {m m' : Ren} (h : ∀ b a, m b = some a → m' b = some a) : ∀ {xs ys : List Value}, VRs m xs ys → VRs m' xs ys
  | _, _, .nil => .nil
  | _, _, .cons hx hs => .cons (VR.imp h hx) (VRs.imp h hs)
end

theorem VR.up {m m' : Ren} (h : m.le m') {x y : Value} (hx : VR m x y) : VR m' x y := hx.imp h.at_
theorem VRs.up {m m' : Ren} (h : m.le m') {x y : List Value} (hx : VRs m x y) : VRs m' x y := hx.imp h.at_

theorem VRs.length {m : Ren} : ∀ {xs ys : List Value}, VRs m xs ys → xs.length = ys.length
  | _, _, .nil => rfl
  | _, _, .cons _ hs => by simp [VRs.length hs]

theorem VRs.get {m : Ren} : ∀ {xs ys : List Value} (h : VRs m xs ys) (i : Nat) {x : Value}, xs[i]? = some x → ∃ y, ys[i]? = some y ∧ VR m x y
  | _, _, .nil, i, x, h => by simp at h
  | _, _, .cons hx hs, 0, x, h => by
    simp only [List.getElem?_cons_zero, Option.some.injEq] at h
    subst h
    exact ⟨_, rfl, hx⟩
  | _, _, .cons hx hs, i + 1, x, h => by
    simp only [List.getElem?_cons_succ] at h ⊢
    exact VRs.get hs i h

theorem VRs.take {m : Ren} : ∀ {xs ys : List Value} (h : VRs m xs ys) (i : Nat), VRs m (xs.take i) (ys.take i)
  | _, _, .nil, i => by simpa using VRs.nil
  | _, _, .cons hx hs, 0 => by simpa using VRs.nil
  | _, _, .cons hx hs, i + 1 => by simpa using VRs.cons hx (VRs.take hs i)
theorem VRs.drop {m : Ren} : ∀ {xs ys : List Value} (h : VRs m xs ys) (i : Nat), VRs m (xs.drop i) (ys.drop i)
  | _, _, .nil, i => by simpa using VRs.nil
  | _, _, .cons hx hs, 0 => by simpa using VRs.cons hx hs
  | _, _, .cons hx hs, i + 1 => by simpa using VRs.drop hs i
theorem VRs.append {m : Ren} : ∀ {xs ys us vs : List Value} (h : VRs m xs ys) (h' : VRs m us vs), VRs m (xs ++ us) (ys ++ vs)
  | _, _, _, _, .nil, h' => h'
  | _, _, _, _, .cons hx hs, h' => .cons hx (VRs.append hs h')
theorem VRs.spl {m : Ren} {z z' cs cs' : List Value} (h : VRs m z z') (hc : VRs m cs cs') (o : Nat) : VRs m (spl z o cs) (spl z' o cs') := by
  unfold V.spl
  rw [hc.length]
  exact ((h.take o).append hc).append (h.drop _)

theorem VR.cells {m : Ren} {x y : Value} (h : VR m x y) : VRs m x.cells.toList y.cells.toList := by
  cases h <;> first | assumption | exact .cons (by constructor <;> assumption) .nil

def xInt (op : BinOp) (k : IntKind) (a : Int) (k' : IntKind) (b : Int) : Option Value :=
  match op with
  | .shl => if 0 ≤ b then some (.int k (k.wrap (a * 2 ^ (min b.toNat k.bits)))) else none
  | .shr => if 0 ≤ b then some (.int k (a.fdiv (2 ^ (min b.toNat k.bits)))) else none
  | .add => if k = k' then some (.int k (k.wrap (a + b))) else none
  | .sub => if k = k' then some (.int k (k.wrap (a - b))) else none
  | .mul => if k = k' then some (.int k (k.wrap (a * b))) else none
  | .quo => if k = k' then if b = 0 then none else some (.int k (k.wrap (a.tdiv b))) else none
  | .rem => if k = k' then if b = 0 then none else some (.int k (a.tmod b)) else none
  | .and => if k = k' then some (.int k (bitsI k (· &&& ·) a b)) else none
  | .or => if k = k' then some (.int k (bitsI k (· ||| ·) a b)) else none
  | .xor => if k = k' then some (.int k (bitsI k (· ^^^ ·) a b)) else none
  | .andNot => if k = k' then some (.int k (bitsI k (fun x y => x &&& ~~~y) a b)) else none
  | .eql => if k = k' then some (.bool (a == b)) else none
  | .neq => if k = k' then some (.bool (a != b)) else none
  | .lss => if k = k' then some (.bool (decide (a < b))) else none
  | .leq => if k = k' then some (.bool (decide (a ≤ b))) else none
  | .gtr => if k = k' then some (.bool (decide (b < a))) else none
  | .geq => if k = k' then some (.bool (decide (b ≤ a))) else none

def plainR (v : Value) : Prop := ∀ m, VR m v v

theorem xInt_ok {op : BinOp} {k k' : IntKind} {a b : Int} {v : Value} {K : Value → Prop} (h : xInt op k a k' b = some v) (hk : plainR v → K v) : vInt op k a k' b K := by
  unfold xInt at h
  unfold vInt
  cases op
  case quo | rem =>
    simp only at h ⊢
    split at h
    · split at h
      · cases h
      · cases h; exact ⟨by assumption, by assumption, hk fun m => .int _ _⟩
    · cases h
  all_goals
    simp only at h ⊢
    split at h
    · cases h; refine ⟨by assumption, hk fun m => ?_⟩; constructor
    · cases h

def xEqB (op : BinOp) (b : Bool) : Option Value :=
  match op with
  | .eql => some (.bool b)
  | .neq => some (.bool (!b))
  | _ => none

theorem xEqB_ok {op : BinOp} {b : Bool} {v : Value} {K : Value → Prop} (h : xEqB op b = some v) (hk : plainR v → K v) : vEqB op b K := by
  unfold xEqB at h
  unfold vEqB
  cases op <;> first
    | (cases h; done)
    | (cases h; exact hk fun m => .bool _)

def xStr (op : BinOp) (a b : ByteArray) : Option Value :=
  match op with
  | .add => if a.data.toList.length + b.data.toList.length < 9223372036854775808 then some (.string ⟨⟨a.data.toList ++ b.data.toList⟩⟩) else none
  | .eql => some (.bool (a.data.toList == b.data.toList))
  | .neq => some (.bool (!(a.data.toList == b.data.toList)))
  | .lss => some (.bool (Op.bytesLess a.data.toList b.data.toList))
  | .leq => some (.bool (Op.bytesLess a.data.toList b.data.toList || a.data.toList == b.data.toList))
  | .gtr => some (.bool (!(Op.bytesLess a.data.toList b.data.toList || a.data.toList == b.data.toList)))
  | .geq => some (.bool (!(Op.bytesLess a.data.toList b.data.toList)))
  | _ => none

theorem bytes_app (a b : ByteArray) : a ++ b = ⟨⟨a.data.toList ++ b.data.toList⟩⟩ := by
  have h : (a ++ b).data = (⟨a.data.toList ++ b.data.toList⟩ : Array UInt8) := by
    rw [ByteArray.data_append]
    apply Array.toList_inj.1
    simp
  cases hb : a ++ b
  rw [hb] at h
  simpa using h

theorem xStr_ok {op : BinOp} {a b : ByteArray} {v : Value} {K : Value → Prop} (h : xStr op a b = some v) (hk : plainR v → K v) : vStr op a b K := by
  unfold xStr at h
  unfold vStr
  cases op <;> simp only at h ⊢ <;> first
    | (cases h; done)
    | (cases h; exact hk fun m => .bool _)
    | skip
  split at h
  · rename_i hl
    cases h
    refine ⟨by rw [Array.length_toList, Array.length_toList] at hl; exact hl, ?_⟩
    rw [bytes_app]
    exact hk fun m => .str _
  · cases h

def xBin (t : TK) (op : BinOp) (x y : Value) : Option Value :=
  match x, y with
  | .int k a, .int k' b => xInt op k a k' b
  | .string a, .string b => xStr op a b
  | .bool a, .bool b => match t with
    | .bool => xEqB op (a == b)
    | _ => none
  | .pointer none, .pointer b => match t with
    | .ptr _ => xEqB op b.isNone
    | _ => none
  | .pointer (some _), .pointer none => match t with
    | .ptr _ => xEqB op false
    | _ => none
  | .slice none _ _, .slice b _ _ => match t with
    | .slice _ => xEqB op b.isNone
    | _ => none
  | .slice (some _) _ _, .slice none _ _ => match t with
    | .slice _ => xEqB op false
    | _ => none
  | .map none, .map b => match t with
    | .map => xEqB op b.isNone
    | _ => none
  | .map (some _), .map none => match t with
    | .map => xEqB op false
    | _ => none
  | .func _ _ _, .nilFunc => match t with
    | .func => xEqB op false
    | _ => none
  | .nilFunc, .nilFunc => match t with
    | .func => xEqB op true
    | _ => none
  | .iface _ _, .nilIface => match t with
    | .inil => xEqB op false
    | _ => none
  | .nilIface, .nilIface => match t with
    | .inil => xEqB op true
    | _ => none
  | _, _ => none

theorem xBin_ok {m : Ren} {t : TK} {op : BinOp} {x y x' y' v : Value} {K : Value → Prop} (hx : VR m x x') (hy : VR m y y') (h : xBin t op x y = some v) (hk : plainR v → K v) : vBin t op x' y' K := by
  unfold xBin at h
  unfold vBin
  cases hx <;> cases hy <;> simp only at h ⊢ <;> first
    | (cases h; done)
    | exact xInt_ok h hk
    | exact xStr_ok h hk
    | (cases t <;> first | (cases h; done) | exact xEqB_ok h hk)

def xUn (op : UnOp) (x : Value) : Option Value :=
  match op, x with
  | .neg, .int k n => some (.int k (k.wrap (0 - n)))
  | .xor, .int k n => some (.int k (bitsI k (· ^^^ ·) (if k.signed then -1 else k.max) n))
  | .not, .bool b => some (.bool (!b))
  | _, _ => none

theorem xUn_ok {m : Ren} {op : UnOp} {x x' v : Value} {K : Value → Prop} (hx : VR m x x') (h : xUn op x = some v) (hk : plainR v → K v) : vUn op x' K := by
  unfold xUn at h
  unfold vUn
  cases hx <;> cases op <;> simp only at h ⊢ <;> first
    | (cases h; done)
    | (cases h; exact hk fun m => by constructor)

def xConv (dst : TK) (x : Value) : Option Value :=
  match dst, x with
  | .int k, .int _ n => some (.int k (k.wrap n))
  | .string, .string s => some (.string s)
  | _, _ => none

theorem xConv_ok {m : Ren} {d : TK} {x x' v : Value} {K : Value → Prop} (hx : VR m x x') (h : xConv d x = some v) (hk : plainR v → K v) : vConv d x' K := by
  unfold xConv at h
  unfold vConv
  cases hx <;> cases d <;> simp only at h ⊢ <;> first
    | (cases h; done)
    | (cases h; exact hk fun m => by constructor)

def xPart (d : LD) (cs : List Value) (off : Nat) : Option Value :=
  match d with
  | .one => cs[off]?
  | .agg n => some (.agg ⟨(cs.drop off).take n⟩)
  | .bad => none

theorem xPart_ok {m : Ren} {d : LD} {cs cs' : List Value} {off : Nat} {v : Value} {K : Value → Prop} (hc : VRs m cs cs') (h : xPart d cs off = some v) (hk : ∀ v', VR m v v' → K v') : vPart d ⟨cs'⟩ off K := by
  unfold xPart at h
  unfold vPart
  cases d with
  | one =>
    obtain ⟨y, hy, hr⟩ := hc.get off h
    simp only [hy]
    exact hk _ hr
  | agg n =>
    cases h
    have := hk (.agg ((cs'.drop off).take n).toArray) (.agg ((hc.drop off).take n))
    simpa using this
  | bad => cases h

def xField (f : Option (LD × Nat)) (x : Value) : Option Value :=
  match f, x with
  | some (d, off), .agg cs => xPart d cs.toList off
  | _, _ => none

theorem xField_ok {m : Ren} {f : Option (LD × Nat)} {x x' v : Value} {K : Value → Prop} (hx : VR m x x') (h : xField f x = some v) (hk : ∀ v', VR m v v' → K v') : vField f x' K := by
  unfold xField at h
  unfold vField
  cases hx <;> rcases f with _ | ⟨d, off⟩ <;> simp only at h ⊢ <;> first
    | (cases h; done)
    | (exact xPart_ok (by assumption) h hk)

def xExt (x : Value) (i : Nat) : Option Value :=
  match x with
  | .tuple vs => vs.toList[i]?
  | _ => none

theorem xExt_ok {m : Ren} {x x' v : Value} {i : Nat} {K : Value → Prop} (hx : VR m x x') (h : xExt x i = some v) (hk : ∀ v', VR m v v' → K v') : vExt x' i K := by
  unfold xExt at h
  unfold vExt
  cases hx <;> simp only at h ⊢ <;> first
    | (cases h; done)
    | skip
  rename_i hs
  obtain ⟨y, hy, hr⟩ := hs.get i h
  simp only [hy]
  exact hk _ hr

def xFA (off : Option Nat) (x : Value) : Option Value :=
  match off, x with
  | some off, .pointer (some ⟨b, o, none⟩) => some (.pointer (some ⟨b, o + off, none⟩))
  | _, _ => none

theorem xFA_ok {m : Ren} {off : Option Nat} {x x' v : Value} {K : Value → Prop} (hx : VR m x x') (h : xFA off x = some v) (hk : ∀ v', VR m v v' → K v') : vFA off x' K := by
  unfold xFA at h
  unfold vFA
  cases hx <;> cases off <;> simp only at h ⊢ <;> first
    | (cases h; done)
    | skip
  cases h
  rw [add_off, Nat.add_assoc]
  exact hk _ (.ptr (by assumption))

def xIA (t : TK) (x i : Value) : Option Value :=
  match t, x, i with
  | .slice es, .slice (some ⟨b, o, none⟩) len _, .int _ n => if 0 ≤ n then if n < (len : Int) then some (.pointer (some ⟨b, o + n.toNat * es, none⟩)) else none else none
  | .arr len es, .pointer (some ⟨b, o, none⟩), .int _ n => if 0 ≤ n then if n < (len : Int) then some (.pointer (some ⟨b, o + n.toNat * es, none⟩)) else none else none
  | _, _, _ => none

theorem xIA_ok {m : Ren} {t : TK} {x i x' i' v : Value} {K : Value → Prop} (hx : VR m x x') (hi : VR m i i') (h : xIA t x i = some v) (hk : ∀ v', VR m v v' → K v') : vIA t x' i' K := by
  unfold xIA at h
  unfold vIA
  cases hx <;> cases hi <;> cases t <;> simp only at h ⊢ <;> first
    | (cases h; done)
    | (repeat' (split at h)
       all_goals first
         | (cases h; done)
         | (cases h
            refine ⟨by assumption, by assumption, ?_⟩
            rw [add_off, Nat.add_assoc]
            exact hk _ (.ptr (by assumption))))

def xIx (t : TK) (d : LD) (x i : Value) : Option Value :=
  match t, x, i with
  | .string, .string s, .int _ n => if 0 ≤ n then match s.data.toList[n.toNat]? with
    | some b => some (.int .u8 b.toNat)
    | none => none else none
  | .arr len es, .agg cs, .int _ n => if 0 ≤ n then if n < (len : Int) then xPart d cs.toList (n.toNat * es) else none else none
  | _, _, _ => none

theorem xIx_ok {m : Ren} {t : TK} {d : LD} {x i x' i' v : Value} {K : Value → Prop} (hx : VR m x x') (hi : VR m i i') (h : xIx t d x i = some v) (hk : ∀ v', VR m v v' → K v') : vIx t d x' i' K := by
  unfold xIx at h
  unfold vIx
  cases hx <;> cases hi <;> cases t <;> simp only at h ⊢ <;> first
    | (cases h; done)
    | skip
  · split at h
    · rename_i h0
      refine ⟨h0, ?_⟩
      split at h
      · rename_i b hb
        cases h
        simp only [hb]
        exact hk _ (.int _ _)
      · cases h
    · cases h
  · split at h
    · split at h
      · exact ⟨by assumption, by assumption, xPart_ok (by assumption) h hk⟩
      · cases h
    · cases h

def xLen (t : TK) (x : Value) : Option Value :=
  match t, x with
  | .string, .string s => some (.int .i64 s.data.toList.length)
  | .arr n _, _ => some (.int .i64 n)
  | .slice _, .slice _ n _ => some (.int .i64 n)
  | _, _ => none

theorem xLen_ok {m : Ren} {t : TK} {x x' v : Value} {K : Value → Prop} (hx : VR m x x') (h : xLen t x = some v) (hk : plainR v → K v) : vLen t x' K := by
  unfold xLen at h
  unfold vLen
  cases hx <;> cases t <;> simp only at h ⊢ <;> first
    | (cases h; done)
    | (cases h; exact hk fun m => by constructor)

def xIface (ok : Bool) (t : TypeId) (x : Value) : Option Value :=
  match ok with
  | true => some (.iface t x)
  | false => none

theorem xIface_ok {m : Ren} {ok : Bool} {t : TypeId} {x x' v : Value} {K : Value → Prop} (hx : VR m x x') (h : xIface ok t x = some v) (hk : ∀ v', VR m v v' → K v') : vIface ok t x' K := by
  unfold xIface at h
  unfold vIface
  cases ok
  · cases h
  · cases h
    exact hk _ (.iface hx)

def xFill (place : Nat → Option (Nat × Nat)) (cells : List Value) : List (Nat × Value) → Option (List Value)
  | [] => some cells
  | (i, v) :: r => match place i with
    | some (off, size) => if v.cells.toList.length = size then xFill place (spl cells off v.cells.toList) r else none
    | none => none

inductive PRs (m : Ren) : List (Nat × Value) → List (Nat × Value) → Prop
  | nil : PRs m [] []
  | cons {i : Nat} {x y : Value} {r s : List (Nat × Value)} (h : VR m x y) (hs : PRs m r s) : PRs m ((i, x) :: r) ((i, y) :: s)

theorem xFill_ok {m : Ren} {place : Nat → Option (Nat × Nat)} {K : List Value → Prop} : ∀ {ps ps' : List (Nat × Value)} (hp : PRs m ps ps') {cells cells' out : List Value}, VRs m cells cells' → xFill place cells ps = some out →
    (∀ out', VRs m out out' → K out') → fillV place cells' ps' K
  | _, _, .nil, cells, cells', out, hc, h, hk => by
    cases h
    exact hk _ hc
  | _, _, .cons hx hs, cells, cells', out, hc, h, hk => by
    unfold xFill at h
    unfold fillV
    split at h
    · rename_i off size hpl
      split at h
      · rename_i hl
        simp only [hpl]
        refine ⟨?_, xFill_ok hs (hc.spl hx.cells off) h hk⟩
        have := hx.cells.length
        rw [← hl, this]
        simp
      · cases h
    · cases h

end Go.X
