/-
  Isa, part 6: what is taken of the library: Itoa, Atoi, Join, Split, the cuttings. Own work.
-/
import Derived.Test.YtnmmpgeojimgoaaDoorI5
import Derived.Lib.ItoaLen
import Derived.Lib.AtoiAllCases
import Derived.Lib.SplitLaws
set_option linter.unusedVariables false
set_option linter.unusedSimpArgs false
set_option maxRecDepth 100000
namespace Go.Proofs.YtnmmpgeojimgoaaDoor
open Go Go.V Go.RowKit

theorem fr_grown (w : World) (k : Nat) (os : Array Obj) : Fr (fun _ => False) w (Go.Sort.grow (w.drewN k) os) :=
  ⟨rfl, rfl, rfl, by simp [Go.Sort.grow, World.drewN], fun i hi _ => by
    show ((w.drewN k).heap ++ os)[i]? = _
    rw [Array.getElem?_append_left (by show i < w.heap.size; omega)]
    rfl⟩

theorem itoa_spec {w : World} {n : Int} {K : Value → World → Prop} (hT : Tabs w) (h0 : -9223372036854775808 ≤ n) (h1 : n < 9223372036854775808) (hK : ∀ w', Fr (fun _ => False) w w' → K (str (Lib.itoa n)) w') : CallK Tryd.prog 29 #[it n] w K :=
  Ret.call (ret_of_calls Tryd.call29 ((Tryd.strconv_Itoa n h0 (by omega) w hT.p10).mono fun e w' ⟨h, k, os, e2⟩ => ⟨_, h, hK w' (e2 ▸ fr_grown w k os)⟩))

theorem joinTail_len (sep : List UInt8) : ∀ xs : List (List UInt8), (Lib.joinTail sep xs).length = xs.flatten.length + xs.length * sep.length
  | [] => by simp [Lib.joinTail]
  | x :: xs => by
    have := joinTail_len sep xs
    simp only [Lib.joinTail] at this ⊢
    rw [List.map_cons, List.flatten_cons, List.length_append, List.length_append, this, List.flatten_cons, List.length_append, List.length_cons, Nat.succ_mul]
    omega

theorem map_data (xs : List (List UInt8)) : (xs.map fun l => (⟨l.toArray⟩ : ByteArray)).map (·.data.toList) = xs := by
  rw [List.map_map]
  exact (List.map_congr_left fun a _ => List.toList_toArray).trans (List.map_id xs)

theorem join_spec {w : World} {v : Value} {xs : List (List UInt8)} {sep : List UInt8} {bl : Option Nat} {K : Value → World → Prop} (h : Row w v (xs.map str) bl) (hn : xs.length ≤ 1000000) (hl : xs.flatten.length + xs.length * sep.length ≤ 140737488355328)
    (hK : ∀ w', Fr (fun _ => False) w w' → K (str (Lib.join xs sep)) w') : CallK Tryd.prog 30 #[v, str sep] w K := by
  cases bl with
  | none =>
    obtain ⟨rfl, hx⟩ := h
    have : xs = [] := by simpa using hx
    subst this
    exact Ret.call (ret_of_calls Tryd.call30 ((Tryd.strings_Join_none none 0 ⟨sep.toArray⟩ w).mono fun e w' ⟨h1, h2⟩ => ⟨_, h1, h2 ▸ hK w (Fr.refl _ _)⟩))
  | some l =>
    obtain ⟨rest, rfl, hc⟩ := h
    rw [List.length_map]
    have := Tryd.strings_Join l 0 (xs.length + rest.length) (xs.map fun l => ⟨l.toArray⟩) ⟨sep.toArray⟩ w (fun j x hj => by
      rw [List.getElem?_map] at hj
      obtain ⟨y, h1, rfl⟩ := Option.map_eq_some_iff.1 hj
      rw [Nat.zero_add]
      refine Cs.cell hc ?_
      rw [List.getElem?_append_left (by have := (List.getElem?_eq_some_iff.1 h1).1; simpa using this), List.getElem?_map, h1]
      rfl) hc.lt (by rw [List.length_map]; omega) (by rw [List.length_map]; omega) (by
        rw [map_data]
        show (Lib.join xs sep).length ≤ _
        cases xs with
        | nil => simp [Lib.join_nil]
        | cons x r =>
          rw [Lib.join_cons, List.length_append, joinTail_len]
          rw [List.flatten_cons, List.length_append, List.length_cons, Nat.succ_mul] at hl
          omega)
    rw [map_data, List.length_map] at this
    exact Ret.call (ret_of_calls Tryd.call30 (this.mono fun e w' ⟨h1, h2⟩ => ⟨_, h1, hK w' (fr_of_below h2)⟩))

theorem atoi_spec {w : World} {l : List UInt8} {K : Value → World → Prop} (hT : Tabs w) (hl : l.length ≤ 281474976710656)
    (hok : ∀ v, Lib.atoiAll l = .ok v → ∀ w', Fr (fun _ => False) w w' → K (.tuple #[it v, .nilIface]) w')
    (hbad : (∀ v, Lib.atoiAll l ≠ .ok v) → ∀ w' n T p, -9223372036854775808 ≤ n → n < 9223372036854775808 → Fr (fun _ => False) w w' → K (.tuple #[it n, .iface T p]) w') : CallK Tryd.prog 35 #[str l] w K := by
  have hs : (⟨l.toArray⟩ : ByteArray).size = l.length := by simp [ByteArray.size]
  cases h : Lib.atoiAll l with
  | ok v =>
    refine Ret.call (ret_of_calls Tryd.call35 ((Tryd.strconv_Atoi_ok ⟨l.toArray⟩ (by rw [hs]; omega) v h w).mono fun e w' ⟨h1, h2⟩ => ⟨_, h1, hok v h w' ?_⟩))
    rcases h2 with rfl | ⟨t, rfl⟩
    · exact Fr.refl _ _
    · refine ⟨rfl, rfl, rfl, ?_, fun k hk _ => ?_⟩
      · unfold Lib.bytesWorld World.freeze
        simp
      · show (Array.modify _ w.heap.size _)[k]? = _
        rw [Array.getElem?_modify, if_neg (by omega)]
        exact blk_lt w.drew _ k hk
  | range =>
    obtain ⟨te, pe, hc⟩ := hT.er
    refine Ret.call (ret_of_calls Tryd.call35 ((Tryd.strconv_Atoi_range ⟨l.toArray⟩ (by rw [hs]; exact hl) h _ w hc (.inr ⟨te, pe, rfl⟩)).mono fun e w' ⟨N, h1, _, _, h2⟩ => ⟨_, h1, hbad (by rw [h]; intro v e; cases e) w' _ _ _ (Lib.atoiSat_bounds l).1 (Int.lt_of_le_of_lt (Lib.atoiSat_bounds l).2 (by decide)) (fr_of_below h2)⟩))
  | _ =>
    obtain ⟨te, pe, hc⟩ := hT.es
    refine Ret.call (ret_of_calls Tryd.call35 ((Tryd.strconv_Atoi_syntax ⟨l.toArray⟩ (by rw [hs]; exact hl) (fun v e => by rw [show (⟨l.toArray⟩ : ByteArray).data.toList = l from rfl, h] at e; cases e) (fun e => by rw [show (⟨l.toArray⟩ : ByteArray).data.toList = l from rfl, h] at e; cases e) _ w hc (.inr ⟨te, pe, rfl⟩)).mono fun e w' ⟨N, h1, _, _, h2⟩ => ⟨_, h1, hbad (by rw [h]; intro v e; cases e) w' _ _ _ (by decide) (by decide) (fr_of_below h2)⟩))

/-- a text's parts between bytes c -/
def parts (c : UInt8) : List UInt8 → List (List UInt8)
  | [] => [[]]
  | b :: r => if b = c then [] :: parts c r else match parts c r with
    | x :: xs => (b :: x) :: xs
    | [] => [[b]]

theorem parts_ne (c : UInt8) (l : List UInt8) : parts c l ≠ [] := by
  cases l with
  | nil => simp [parts]
  | cons b r =>
    unfold parts
    split
    · simp
    · split <;> simp

theorem index_eq (c : UInt8) (r : List UInt8) : Lib.index (c :: r) [c] = 0 := by simp [Lib.index, List.isPrefixOf]
theorem index_neq {b c : UInt8} (h : b ≠ c) (r : List UInt8) : Lib.index (b :: r) [c] = if Lib.index r [c] == -1 then -1 else Lib.index r [c] + 1 := by
  simp [Lib.index, List.isPrefixOf, h.symm]

theorem count_pos (c : UInt8) : ∀ (r : List UInt8), Lib.count r [c] ≠ 0 → 0 ≤ Lib.index r [c]
  | [], h => by rw [Lib.count_one] at h; simp at h
  | b :: r, h => by
    by_cases e : b = c
    · subst e; rw [index_eq]; omega
    · rw [Lib.count_cons_ne _ _ _ e] at h
      have := count_pos c r h
      rw [index_neq e]
      have hn : ¬ (Lib.index r [c] == -1) = true := by simp; omega
      rw [if_neg hn]; omega

theorem count_zero (c : UInt8) : ∀ (r : List UInt8), Lib.count r [c] = 0 → parts c r = [r]
  | [], _ => rfl
  | b :: r, h => by
    by_cases e : b = c
    · subst e; rw [Lib.count_cons_eq] at h; omega
    · rw [Lib.count_cons_ne _ _ _ e] at h
      rw [parts, if_neg e, count_zero c r h]

theorem split_parts (c : UInt8) : ∀ (l : List UInt8), Lib.split l [c] = parts c l
  | [] => by
    have : Lib.count ([] : List UInt8) [c] = 0 := by rw [Lib.count_one]; rfl
    unfold Lib.split; rw [this]; rfl
  | b :: r => by
    have ih := split_parts c r
    unfold Lib.split at ih ⊢
    by_cases e : b = c
    · subst e
      rw [Lib.count_cons_eq, Nat.add_comm, Lib.splitK, index_eq]
      simp only [parts, if_pos]
      have : ¬ ((0 : Int) == -1) = true := by decide
      rw [if_neg this]
      simp [ih]
    · rw [Lib.count_cons_ne _ _ _ e]
      cases hc : Lib.count r [c] with
      | zero =>
        have := count_zero c r hc
        rw [Lib.splitK, parts, if_neg e, this]
      | succ k =>
        rw [hc] at ih
        have hp := count_pos c r (by omega)
        have hn : ¬ (Lib.index r [c] == -1) = true := by simp; omega
        rw [Lib.splitK, if_neg hn] at ih
        rw [Lib.splitK, index_neq e, if_neg hn]
        have hn2 : ¬ (Lib.index r [c] + 1 == -1) = true := by simp; omega
        rw [if_neg hn2, parts, if_neg e, ← ih]
        obtain ⟨i, hi⟩ := Int.eq_ofNat_of_zero_le hp
        rw [hi]
        have e1 : ((i : Int) + 1).toNat = i + 1 := by omega
        rw [e1]
        simp

theorem split_spec {w : World} {l : List UInt8} {c : UInt8} {K : Value → World → Prop} (hT : Tabs w) (hl : l.length < 4294967281)
    (hK : ∀ w' v, Row w' v ((parts c l).map str) (some w.heap.size) → Fr (fun _ => False) w w' → K v w') : CallK Tryd.prog 48 #[str l, str [c]] w K := by
  obtain ⟨m, hm⟩ := hT.ml
  have hs : (⟨l.toArray⟩ : ByteArray).size = l.length := by simp [ByteArray.size]
  have h1 : (⟨[c].toArray⟩ : ByteArray).size = 1 := rfl
  refine Ret.call (ret_of_calls Tryd.call48 ((Tryd.strings_Split ⟨l.toArray⟩ ⟨[c].toArray⟩ m w (by rw [hs]; exact hl) hm (by rw [h1]; omega)).mono fun e w' ⟨h1, h2⟩ => ⟨_, h1, ?_⟩))
  subst h2
  have hd := Lib.splitB_data ⟨[c].toArray⟩ 0 (Lib.countB ⟨l.toArray⟩ ⟨[c].toArray⟩) ⟨l.toArray⟩
  have hlen := Lib.splitB_all ⟨[c].toArray⟩ (Nat.le_refl 1) 0 (Lib.countB ⟨l.toArray⟩ ⟨[c].toArray⟩) ⟨l.toArray⟩ rfl
  have hcount : Lib.countB ⟨l.toArray⟩ ⟨[c].toArray⟩ = Lib.count l [c] := rfl
  have hsp : Lib.splitK [c] 0 (Lib.count l [c]) l = parts c l := split_parts c l
  have hx : (Lib.splitB ⟨[c].toArray⟩ 0 (Lib.countB ⟨l.toArray⟩ ⟨[c].toArray⟩) ⟨l.toArray⟩).map Value.string = (parts c l).map str := by
    have hd' : (Lib.splitB ⟨[c].toArray⟩ 0 (Lib.countB ⟨l.toArray⟩ ⟨[c].toArray⟩) ⟨l.toArray⟩).map (·.data.toList) = parts c l := hd.trans hsp
    rw [← hd', List.map_map]
    exact List.map_congr_left fun a _ => by cases a; rfl
  have hn : Lib.countB ⟨l.toArray⟩ ⟨[c].toArray⟩ + 1 = (parts c l).length := by
    rw [← hlen]
    have := congrArg List.length hx
    simpa using this
  rw [hx, hn]
  refine hK _ _ ⟨[], ?_, ?_⟩ ((Fr.refl _ w).alloc _)
  · simp
  · rw [List.append_nil]; exact Cs.new _ _ _

theorem cutPrefix_spec {w : World} {l p : List UInt8} {K : Value → World → Prop} (hK : K (.tuple #[str (Lib.trimPrefix l p), .bool (Lib.hasPrefix l p)]) w) : CallK Tryd.prog 50 #[str l, str p] w K :=
  Ret.call (ret_of_calls Tryd.call50 ((Tryd.strings_CutPrefix ⟨l.toArray⟩ ⟨p.toArray⟩ w).mono fun e w' ⟨h1, h2⟩ => ⟨_, h1, h2 ▸ hK⟩))

theorem cutSuffix_spec {w : World} {l p : List UInt8} {K : Value → World → Prop} (hl : l.length ≤ 9223372036854775807) (hK : K (.tuple #[str (Lib.trimSuffix l p), .bool (Lib.hasSuffix l p)]) w) : CallK Tryd.prog 54 #[str l, str p] w K :=
  Ret.call (ret_of_calls Tryd.call54 ((Tryd.strings_CutSuffix ⟨l.toArray⟩ ⟨p.toArray⟩ w (by simpa [ByteArray.size] using hl)).mono fun e w' ⟨h1, h2⟩ => ⟨_, h1, h2 ▸ hK⟩))

theorem hasSuffix_spec {w : World} {l p : List UInt8} {K : Value → World → Prop} (hl : l.length ≤ 9223372036854775807) (hK : K (.bool (Lib.hasSuffix l p)) w) : CallK Tryd.prog 53 #[str l, str p] w K :=
  Ret.call (ret_of_calls Tryd.call53 ((Tryd.strings_HasSuffix ⟨l.toArray⟩ ⟨p.toArray⟩ w (by simpa [ByteArray.size] using hl)).mono fun e w' ⟨h1, h2⟩ => ⟨_, h1, h2 ▸ hK⟩))

end Go.Proofs.YtnmmpgeojimgoaaDoor
