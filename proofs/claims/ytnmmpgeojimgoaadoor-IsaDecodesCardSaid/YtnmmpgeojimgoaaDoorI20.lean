/-
  Isa, part 20: programs of texts, without the program. Own work.
-/
import Derived.Test.YtnmmpgeojimgoaaDoorI19
set_option linter.unusedVariables false
set_option linter.unusedSimpArgs false
set_option maxRecDepth 100000
namespace Go.Proofs.YtnmmpgeojimgoaaDoor
open Go Go.V Go.RowKit

theorem parts_lines {c : UInt8} {last : List UInt8} (hl : c ∉ last) : ∀ (ls : List (List UInt8)), (∀ x ∈ ls, c ∉ x) → parts c ((ls.map (· ++ [c])).flatten ++ last) = ls ++ [last]
  | [], _ => by simpa using parts_one hl
  | x :: r, h => by
    have ih := parts_lines hl r (fun y hy => h y (by simp [hy]))
    rw [List.map_cons, List.flatten_cons, List.append_assoc, List.append_assoc, List.singleton_append, parts_app (h x (by simp)), ih]
    rfl

theorem txt_no {x : Cd} {c : UInt8} (hc : c.toNat < 45) (h32 : c ≠ 32) : c ∉ txt x := by
  have hw := txtWords_no (x := x) hc
  unfold txt
  cases hs : txtWords x with
  | nil => exact absurd hs (txtWords_ne x)
  | cons a r =>
    rw [hs] at hw
    rw [Lib.join_cons]
    intro h
    rcases List.mem_append.1 h with h | h
    · exact hw a (by simp) h
    · unfold Lib.joinTail at h
      obtain ⟨l, hl, hm⟩ := List.mem_flatten.1 h
      obtain ⟨y, hy, rfl⟩ := List.mem_map.1 hl
      rcases List.mem_append.1 hm with hm | hm
      · exact h32 (List.mem_singleton.1 hm)
      · exact hw y (by simp [hy]) hm

theorem txt_ne {x : Cd} (h : rightB x = true) : txt x ≠ [] := by
  rw [txt_parts]
  have := opName_ne (right_op h).1 (right_op h).2
  intro e
  exact this (List.append_eq_nil_iff.1 e).1

theorem txt_colon {x : Cd} (h : rightB x = true) : Lib.hasSuffix (txt x) [58] = false := by
  obtain ⟨b, hb, hk, _⟩ := suffix_last (txt_ne h)
  cases hc : Lib.hasSuffix (txt x) [58] with
  | false => rfl
  | true =>
    exfalso
    have hb58 := hk.1 hc
    subst hb58
    have hm := List.mem_of_getElem? hb
    have key : ∀ y ∈ txtWords x, (58 : UInt8) ∉ y := by
      intro y hy
      unfold txtWords at hy
      have it58 : ∀ n, (58 : UInt8) ∉ Lib.itoa n := fun n hn => by
        have := itoa_byte n 58 hn
        revert this; decide
      rcases List.mem_append.1 hy with hy | hy
      · rcases List.mem_cons.1 hy with rfl | hy
        · exact opName_no (by decide)
        · obtain ⟨r, _, rfl⟩ := List.mem_map.1 hy
          intro h
          rcases List.mem_cons.1 h with e | h
          · revert e; decide
          · exact it58 _ h
      · split at hy
        · simp at hy
        · rw [List.mem_singleton.1 hy]; exact it58 _
    unfold txt at hm
    cases hs : txtWords x with
    | nil => exact absurd hs (txtWords_ne x)
    | cons a r =>
      rw [hs] at key hm
      rw [Lib.join_cons] at hm
      rcases List.mem_append.1 hm with h | h
      · exact key a (by simp) h
      · unfold Lib.joinTail at h
        obtain ⟨l, hl, hm⟩ := List.mem_flatten.1 h
        obtain ⟨y, hy, rfl⟩ := List.mem_map.1 hl
        rcases List.mem_append.1 hm with hm | hm
        · revert hm; decide
        · exact key y (by simp [hy]) hm

def lns : Nat → List Cd → List Ln
  | _, [] => []
  | i, x :: r => ⟨i + 1, x, []⟩ :: lns (i + 1) r

theorem lns_len : ∀ (xs : List Cd) (i : Nat), (lns i xs).length = xs.length
  | [], _ => rfl
  | x :: r, i => by rw [lns, List.length_cons, lns_len r (i + 1)]; rfl
theorem lns_name : ∀ (xs : List Cd) (i : Nat), ∀ y ∈ lns i xs, y.name = []
  | [], _, y, h => by cases h
  | x :: r, i, y, h => by
    rw [lns] at h
    rcases List.mem_cons.1 h with rfl | h
    · rfl
    · exact lns_name r (i + 1) y h

theorem scan_texts : ∀ (xs : List Cd) (r : List (List UInt8)) (i : Nat) (out : List Ln) (pl : List (List UInt8 × Nat)), (∀ x ∈ xs, rightB x = true) → scan i (xs.map txt ++ r) out pl = scan (i + xs.length) r (out ++ lns i xs) pl
  | [], r, i, out, pl, _ => by simp [lns]
  | x :: xs, r, i, out, pl, h => by
    have hx := h x (by simp)
    rw [List.map_cons, List.cons_append, scan_cons, if_neg (txt_ne hx), if_neg (by rw [txt_colon hx]; decide), lineOf_says ⟨hx, rfl⟩]
    simp only
    rw [scan_texts xs r (i + 1) _ pl (fun y hy => h y (by simp [hy])), lns, List.append_assoc, List.length_cons]
    have : i + 1 + xs.length = i + (xs.length + 1) := by omega
    rw [this]; rfl

theorem scan_blanks (r : List (List UInt8)) (out : List Ln) (pl : List (List UInt8 × Nat)) : ∀ (k i : Nat), scan i (List.replicate k [] ++ r) out pl = scan (i + k) r out pl
  | 0, i => by simp
  | k + 1, i => by
    rw [List.replicate_succ, List.cons_append, scan_cons, if_pos rfl, scan_blanks r out pl k (i + 1)]
    have : i + 1 + k = i + (k + 1) := by omega
    rw [this]

theorem firstBad_names {pl : List (List UInt8 × Nat)} : ∀ {a : List Ln}, (∀ y ∈ a, y.name = [] ∨ find y.name pl ≠ none) → firstBad pl a = none
  | [], _ => rfl
  | x :: r, h => by
    unfold firstBad
    rw [if_neg (fun hc => by rcases h x (by simp) with h | h; exact hc.1 h; exact h hc.2)]
    exact firstBad_names (fun y hy => h y (by simp [hy]))

theorem outBytes_lns (pl : List (List UInt8 × Nat)) : ∀ (xs : List Cd) (i j : Nat), (∀ x ∈ xs, rightB x = true) → outBytes pl i (lns j xs) = (xs.map enc).flatten
  | [], _, _, _ => rfl
  | x :: r, i, j, h => by
    rw [lns, outBytes, outBytes_lns pl r (i + 1) (j + 1) (fun y hy => h y (by simp [hy]))]
    have : fixN pl i ⟨j + 1, x, []⟩ = x := by unfold fixN; rw [if_pos rfl]
    rw [this]
    unfold encB
    rw [if_pos (h x (by simp))]
    rfl
theorem outBytes_append (pl : List (List UInt8 × Nat)) : ∀ (a b : List Ln) (i : Nat), outBytes pl i (a ++ b) = outBytes pl i a ++ outBytes pl (i + a.length) b
  | [], b, i => by simp [outBytes]
  | x :: a, b, i => by
    rw [List.cons_append, outBytes, outBytes_append pl a b (i + 1), outBytes, List.append_assoc, List.length_cons]
    have : i + 1 + a.length = i + (a.length + 1) := by omega
    rw [this]
theorem encs_len : ∀ xs : List Cd, (xs.map enc).flatten.length = 4 * xs.length
  | [] => rfl
  | x :: r => by rw [List.map_cons, List.flatten_cons, List.length_append, encs_len r, List.length_cons]; simp [enc]; omega

theorem count_texts : ∀ xs : List Cd, (∀ x ∈ xs, rightB x = true) → (xs.map txt).countP isIns = xs.length
  | [], _ => rfl
  | x :: r, h => by
    have hx := h x (by simp)
    have : isIns (txt x) = true := by
      unfold isIns
      rw [txt_colon hx]
      simpa using txt_ne hx
    rw [List.map_cons, List.countP_cons, this, count_texts r (fun y hy => h y (by simp [hy]))]; simp

/-! ### IsaLists -/

theorem build_texts {gs : List Cd} (hg : ∀ x ∈ gs, rightB x = true) (hn : gs.length ≤ 1024) : buildB (Lib.join (gs.map txt) [10]) = ((gs.map enc).flatten, 0, 0) := by
  unfold buildB
  cases gs with
  | nil =>
    have e : parts 10 (Lib.join (([] : List Cd).map txt) [10]) = [[]] := rfl
    rw [e, if_neg (by decide), scan_cons, if_pos rfl, scan_nil]
    rfl
  | cons x r =>
    have e : parts 10 (Lib.join ((x :: r).map txt) [10]) = (x :: r).map txt := by
      refine parts_join (by simp) fun y hy => ?_
      obtain ⟨z, _, rfl⟩ := List.mem_map.1 hy
      exact txt_no (by decide) (by decide)
    rw [e, if_neg (by rw [count_texts _ hg]; omega)]
    have hs := scan_texts (x :: r) [] 0 [] [] hg
    rw [List.append_nil, scan_nil, List.nil_append] at hs
    rw [hs]
    simp only
    rw [firstBad_names (fun y hy => .inl (lns_name _ _ y hy))]
    simp only
    rw [outBytes_lns [] _ _ _ hg]

theorem listB_enc : ∀ (gs : List Cd) (t : List UInt8), (∀ x ∈ gs, rightB x = true) → listB ((gs.map enc).flatten ++ t) = (listB t).map (gs.map txt ++ ·)
  | [], t, _ => by simp
  | x :: r, t, h => by
    have hx := h x (by simp)
    obtain ⟨p, q, u, v, e1, e2⟩ := dec_enc hx
    have hd := decode_enc hx
    rw [e1] at hd
    rw [List.map_cons, List.flatten_cons, e1, List.append_assoc]
    show listB (p :: q :: u :: v :: ((r.map enc).flatten ++ t)) = _
    rw [listB, hd]
    simp only
    rw [listB_enc r t (fun y hy => h y (by simp [hy])), Option.map_map]
    congr 1

theorem join_snoc (sep : List UInt8) (t : List UInt8) : ∀ ts : List (List UInt8), Lib.join (ts ++ [t]) sep = if ts = [] then t else Lib.join ts sep ++ (sep ++ t)
  | [] => by simp [Lib.join_one]
  | x :: r => by
    rw [if_neg (by simp), List.cons_append, Lib.join_cons, Lib.join_cons]
    unfold Lib.joinTail
    simp [List.append_assoc]

/-! ### IsaPlaces -/

def nmHere : List UInt8 := [104, 101, 114, 101]
def goHere : List UInt8 := [103, 111, 32, 104, 101, 114, 101]
def zeroHere : List UInt8 := [122, 101, 114, 111, 32, 114, 51, 32, 104, 101, 114, 101]
def hereLab : List UInt8 := [104, 101, 114, 101, 58]

theorem lineGo : lineOf goHere = some (⟨22, 0, 0, 0, 0⟩, nmHere) := by
  have hc : Calls goHere ⟨22, 0, 0, 0, 0⟩ nmHere := by
    refine ⟨⟨by decide, rfl, by decide, ?_, ⟨fun _ => rfl, fun _ => rfl, fun _ => rfl⟩, fun h => absurd h (by decide)⟩, by decide, by decide⟩
    rw [regs0 (x := ⟨22, 0, 0, 0, 0⟩) (by decide)]
    intro r hr; cases hr
  exact lineOf_calls (calls_says hc) hc
theorem lineZero : lineOf zeroHere = some (⟨23, 3, 0, 0, 0⟩, nmHere) := by
  have hc : Calls zeroHere ⟨23, 3, 0, 0, 0⟩ nmHere := by
    have hr : regsOf ⟨23, 3, 0, 0, 0⟩ = [3] := regs1 (by decide)
    refine ⟨⟨by decide, rfl, ?_, ?_, ⟨fun h => absurd h (by decide), fun _ => rfl, fun _ => rfl⟩, fun h => absurd h (by decide)⟩, by decide, by decide⟩
    · rw [hr]
      simp only [List.map_cons, List.map_nil, regT]
      rw [itoa_dig (n := 3) (by decide) (by decide)]
      decide
    · rw [hr]
      intro r hr
      rw [List.mem_singleton.1 hr]; decide
  exact lineOf_calls (calls_says hc) hc

theorem rep_one : ∀ k : Nat, (List.replicate k ([10] : List UInt8)).flatten = List.replicate k 10
  | 0 => rfl
  | k + 1 => by rw [List.replicate_succ, List.flatten_cons, rep_one k]; rfl

/-- the program's text -/
def placeText (B D : List Cd) (k : Nat) : List UInt8 := goHere ++ [10] ++ (((B.map fun x => txt x ++ [10]).flatten ++ List.replicate k 10 ++ (hereLab ++ [10])) ++ (D.map fun x => txt x ++ [10]).flatten) ++ zeroHere

theorem placeParts (B D : List Cd) (k : Nat) : parts 10 (placeText B D k) = goHere :: (B.map txt ++ (List.replicate k [] ++ (hereLab :: (D.map txt ++ [zeroHere])))) := by
  have h := parts_lines (c := 10) (last := zeroHere) (by decide) (goHere :: (B.map txt ++ (List.replicate k [] ++ (hereLab :: D.map txt)))) (by
    intro x hx
    rcases List.mem_cons.1 hx with rfl | hx
    · decide
    rcases List.mem_append.1 hx with hx | hx
    · obtain ⟨z, _, rfl⟩ := List.mem_map.1 hx; exact txt_no (by decide) (by decide)
    rcases List.mem_append.1 hx with hx | hx
    · rw [(List.mem_replicate.1 hx).2]; simp
    rcases List.mem_cons.1 hx with rfl | hx
    · decide
    · obtain ⟨z, _, rfl⟩ := List.mem_map.1 hx; exact txt_no (by decide) (by decide))
  have e : ((goHere :: (B.map txt ++ (List.replicate k [] ++ (hereLab :: D.map txt)))).map (· ++ [10])).flatten ++ zeroHere = placeText B D k := by
    unfold placeText
    have hrep := rep_one k
    simp only [List.map_cons, List.map_append, List.map_map, List.map_replicate, List.flatten_cons, List.flatten_append, List.nil_append, hrep, List.append_assoc]
    rfl
  rw [← e, h]
  simp

theorem place_build {B D : List Cd} {k : Nat} (hB : ∀ x ∈ B, rightB x = true) (hD : ∀ x ∈ D, rightB x = true) (nB : B.length ≤ 100) (nD : D.length ≤ 100) :
    buildB (placeText B D k) = (enc ⟨22, 0, 0, 0, B.length⟩ ++ ((B.map enc).flatten ++ ((D.map enc).flatten ++ enc ⟨23, 3, 0, 0, -(D.length : Int) - 1⟩)), 0, 0) := by
  unfold buildB
  rw [placeParts]
  have hcnt : (goHere :: (B.map txt ++ (List.replicate k [] ++ (hereLab :: (D.map txt ++ [zeroHere]))))).countP isIns = B.length + D.length + 2 := by
    have h0 : (List.replicate k ([] : List UInt8)).countP isIns = 0 := by
      rw [List.countP_replicate]; simp [isIns]
    have h1 : isIns goHere = true := by decide
    have h2 : isIns hereLab = false := by decide
    have h3 : isIns zeroHere = true := by decide
    rw [List.countP_cons, List.countP_append, count_texts _ hB, List.countP_append, h0, List.countP_cons, List.countP_append, count_texts _ hD, List.countP_singleton, h1, h2, h3]
    simp; omega
  rw [if_neg (by rw [hcnt]; omega)]
  have hs : scan 0 (goHere :: (B.map txt ++ (List.replicate k [] ++ (hereLab :: (D.map txt ++ [zeroHere]))))) [] [] =
      .inr (⟨1, ⟨22, 0, 0, 0, 0⟩, nmHere⟩ :: (lns 1 B ++ (lns (1 + B.length + k + 1) D ++ [⟨1 + B.length + k + 1 + D.length + 1, ⟨23, 3, 0, 0, 0⟩, nmHere⟩])), [(nmHere, 1 + B.length)]) := by
    rw [scan_cons, if_neg (by decide), if_neg (by decide), lineGo]
    simp only
    rw [scan_texts B _ _ _ _ hB, scan_blanks, scan_cons, if_neg (by decide), if_pos (by decide), if_neg (by decide)]
    have e1 : Lib.trimSuffix hereLab [58] = nmHere := by decide
    rw [e1, scan_texts D _ _ _ _ hD, scan_cons, if_neg (by decide), if_neg (by decide), lineZero]
    simp only
    rw [scan_nil]
    simp [lns_len]
    omega
  rw [hs]
  simp only
  have hf : find nmHere [(nmHere, 1 + B.length)] = some (1 + B.length) := by simp [find]
  rw [firstBad_names (fun y hy => by
    rcases List.mem_cons.1 hy with rfl | hy
    · right; simp only; rw [hf]; simp
    rcases List.mem_append.1 hy with hy | hy
    · exact .inl (lns_name _ _ y hy)
    rcases List.mem_append.1 hy with hy | hy
    · exact .inl (lns_name _ _ y hy)
    · rw [List.mem_singleton.1 hy]; right; simp only; rw [hf]; simp)]
  simp only
  rw [outBytes, outBytes_append, outBytes_lns _ _ _ _ hB, outBytes_append, outBytes_lns _ _ _ _ hD, lns_len, lns_len]
  have f1 : fixN [(nmHere, 1 + B.length)] 0 ⟨1, ⟨22, 0, 0, 0, 0⟩, nmHere⟩ = ⟨22, 0, 0, 0, B.length⟩ := by
    unfold fixN
    rw [if_neg (show ¬ nmHere = [] by decide), hf]
    simp only [Cd.mk.injEq, Option.getD_some, true_and]
    omega
  have r1 : rightB ⟨22, 0, 0, 0, (B.length : Int)⟩ = true := by
    unfold rightB
    rw [show shNum 22 = 3 from rfl, show shRegs 22 = 0 from rfl]
    simp [fitsN, regOk]; omega
  have f2 : fixN [(nmHere, 1 + B.length)] (0 + 1 + B.length + D.length) ⟨1 + B.length + k + 1 + D.length + 1, ⟨23, 3, 0, 0, 0⟩, nmHere⟩ = ⟨23, 3, 0, 0, -(D.length : Int) - 1⟩ := by
    unfold fixN
    rw [if_neg (show ¬ nmHere = [] by decide), hf]
    simp only [Cd.mk.injEq, Option.getD_some, true_and]
    omega
  have r2 : rightB ⟨23, 3, 0, 0, -(D.length : Int) - 1⟩ = true := by
    unfold rightB
    rw [show shNum 23 = 3 from rfl, show shRegs 23 = 1 from rfl]
    simp [fitsN, regOk]; omega
  rw [f1, outBytes, f2, outBytes]
  unfold encB
  rw [if_pos r1, if_pos r2, List.append_nil]

theorem right22 {n : Nat} (h : n ≤ 100) : rightB ⟨22, 0, 0, 0, (n : Int)⟩ = true := by
  unfold rightB
  rw [show shNum 22 = 3 from rfl, show shRegs 22 = 0 from rfl]
  simp [fitsN, regOk]; omega
theorem right23 {n : Nat} (h : n ≤ 100) : rightB ⟨23, 3, 0, 0, -(n : Int) - 1⟩ = true := by
  unfold rightB
  rw [show shNum 23 = 3 from rfl, show shRegs 23 = 1 from rfl]
  simp [fitsN, regOk]; omega

end Go.Proofs.YtnmmpgeojimgoaaDoor
