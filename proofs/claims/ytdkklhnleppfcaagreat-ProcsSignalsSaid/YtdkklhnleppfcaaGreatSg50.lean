import Derived.Test.YtdkklhnleppfcaaGreatSg36
import Derived.Test.YtdkklhnleppfcaaGreatSg40
import Derived.Test.YtdkklhnleppfcaaGreatSg42
import Derived.Test.YtdkklhnleppfcaaGreatSg45
import Derived.Test.YtdkklhnleppfcaaGreatSg47
import Derived.Test.YtdkklhnleppfcaaGreatSg49
import Derived.Test.YtdkklhnleppfcaaGreatSg33
import Derived.Test.YtdkklhnleppfcaaGreatSg06
import Derived.Test.YtdkklhnleppfcaaGreatRows
import Derived.ProofKit
import Derived.Handed
import Derived.OpenShut
import Derived.Stop.Joined
import Derived.Test.YtdkklhnleppfcaaGreatSg05
set_option linter.unusedVariables false
set_option linter.unusedSimpArgs false

set_option maxRecDepth 100000
set_option linter.unusedVariables false
namespace Go.Proofs.YtdkklhnleppfcaaGreat
open Go Go.V Go.X
noncomputable def ll_hk : Hook := orH (memo [s1, lf0, lw0, lx0, lw1, lw2]) hk0
theorem ll_hk_ok : HkOK Tryz.prog 0 ll_hk := orH_ok (memo_ok (fun M hM => by
  simp only [List.mem_cons, List.not_mem_nil, or_false] at hM
  rcases hM with rfl | rfl | rfl | rfl | rfl | rfl
  · exact s1_ok
  · exact lf0_ok
  · exact lw0_ok
  · exact lx0_ok
  · exact lw1_ok
  · exact lw2_ok)) hk0_ok
noncomputable def ll_F : Funs := funs Tryz.prog 0 (goodL gl) xtabs ll_hk 100000 60
theorem ll_F_ok : FsOK Tryz.prog 0 ll_F := funs_ok told ll_hk_ok 60
theorem ll_ok : MemOK Tryz.prog 0 ll := mem_ok ll_F_ok (by kernel_rfl)
end Go.Proofs.YtdkklhnleppfcaaGreat

/-
  ProcsSignals: the law, its walk. Own work.
-/
set_option linter.unusedVariables false
set_option linter.unusedSimpArgs false
set_option maxRecDepth 100000
namespace Go.Proofs.YtdkklhnleppfcaaGreat
open Go Go.V Go.X Go.RowKit

theorem zc36 : zc Tryz.prog 36 = some #[it 0, it 0] := by kernel_rfl
theorem b36a : (fun (K : Value → Prop) => vBuild Tryz.prog 36 [(0, it 30), (1, it 800)] K) = fun K => ((1 : Nat) = 1 ∧ (1 : Nat) = 1 ∧ K (.agg #[it 30, it 800])) := by kernel_rfl
theorem build36a {K : Value → Prop} (k : K (.agg #[it 30, it 800])) : vBuild Tryz.prog 36 [(0, it 30), (1, it 800)] K := by
  have := congrFun b36a K
  exact this ▸ ⟨rfl, rfl, k⟩
theorem b36b : (fun (K : Value → Prop) => vBuild Tryz.prog 36 [(0, it 801)] K) = fun K => ((1 : Nat) = 1 ∧ K (.agg #[it 801, it 0])) := by kernel_rfl
theorem build36b {K : Value → Prop} (k : K (.agg #[it 801, it 0])) : vBuild Tryz.prog 36 [(0, it 801)] K := by
  have := congrFun b36b K
  exact this ▸ ⟨rfl, k⟩
theorem rem31 {a : Int} {K : Value → Prop} (k : K (.int .u64 (a.tmod 31))) : vBin (.int .u64) .rem (.int .u64 a) (.int .u64 31) K := ⟨rfl, by decide, k⟩

def sigV (n : Int) : Int := 1 + (IntKind.u64.wrap n).tmod 31
theorem sigV_le (n : Int) : 1 ≤ sigV n ∧ sigV n ≤ 31 := by
  have h0 : 0 ≤ IntKind.u64.wrap n := by
    show 0 ≤ n % 18446744073709551616
    omega
  unfold sigV
  have h1 : 0 ≤ (IntKind.u64.wrap n).tmod 31 := Int.tmod_nonneg _ h0
  have h2 : (IntKind.u64.wrap n).tmod 31 < 31 := Int.tmod_lt_of_pos _ (by decide)
  omega

section
variable {F : Nat → Prop} {w0 w : World} {L : List As}

theorem ldX_cell {m : Ren} {s : St} {i : Nat} (h : Lx F w0 w L) (hi : L[i]? = some (As.st 0 m s)) {x v : Value} {a o : Nat} (hx : VR m x (pt a o)) (hv : xLd s .one x = some v) : ∃ y, w.cell? ⟨a, o, none⟩ = some y ∧ VR m v y := by
  have h1 : vLd .one (pt a o) w (fun v' => VR m v v') := sLdX h hi hx hv fun _ e => e
  have h1 : ld1 w ⟨a, o, none⟩ (fun v' => VR m v v') := h1
  unfold ld1 at h1
  split at h1
  · rename_i v' hc; exact ⟨v', hc, h1⟩
  · exact h1.elim

theorem rLdCell {S : World → Prop} {a o : Nat} {y : Value} {K : Value → Prop} (h : ∀ W, S W → W.cell? ⟨a, o, none⟩ = some y) (k : K y) : vLdS S .one (pt a o) K := ⟨y, h, k⟩

def sigR (m : Ren) (ad : Nat → Nat) (b7 b8 : Nat) : List As := [.blk (ad 2428) [pt (ad 25) 0, rv m (lP 188 0), pt (ad 1754) 0], .blk b8 [it 801, it 0], .blk b7 [it 30, it 800]]
def sigI (F : Nat → Prop) (w0 W : World) (m : Ren) (ad : Nat → Nat) (b7 b8 : Nat) (g : KG) (l wt : List Int) (wv : Value) : Prop :=
  ∃ (HG : Int → ThG) (AG : Int → Value × Option Nat) (κ : KP) (bl : Option Nat), KS κ l ∧ Lx F w0 W (.rw 1 wv wt.length (wt.map it) bl :: (procsL { g with HG := HG, AG := AG } κ (gf_q m ad) ++ sigR m ad b7 b8))

variable {m : Ren} {ad : Nat → Nat} {b7 b8 : Nat} {g : KG}

theorem sig_rest {l : List Int} {wv : Value} {W : World} {K : Value → World → Prop} (hI : sigI F w0 W m ad b7 b8 g l l wv) (hk : ∀ w', Fr F w0 w' → K (.bool true) w') {ρ : Env} (e5 : ρ 5 = pt (ad 2428) 0) (e8 : ρ 8 = pt b8 0) (e11 : ρ 11 = wv) : F4J1 K ρ [] W := by
  obtain ⟨HG, AG, κ, bl, ks, h⟩ := hI
  have hle := ks.le
  unfold F4J1
  simp only [e5, e8, e11]
  refine (h.rw (i := 0) rfl).lenE ?_
  refine ⟨fun vs ds W => ds = [] ∧ ∃ (j : Nat) (HG : Int → ThG) (AG : Int → Value × Option Nat) (κ : KP), j ≤ l.length ∧ vs = [pt (ad 2428) 0, pt b8 0, wv, it l.length, it j] ∧ KS κ (l.drop j) ∧
      Lx F w0 W (.rw 1 wv l.length (l.map it) bl :: (procsL { g with HG := HG, AG := AG } κ (gf_q m ad) ++ sigR m ad b7 b8)),
    fun vs _ _ => match vs with | [_, _, _, _, .int _ j] => l.length + 1 - j.toNat | _ => 0, ⟨rfl, 0, HG, AG, κ, Nat.zero_le _, rfl, ks, h⟩, ?_⟩
  rintro ρ ds W ⟨rfl, j, HG, AG, κ, hj, hρ, ks, h⟩
  rw [hρ]
  simp only [List.map_cons, List.map_nil, List.cons.injEq, and_true] at hρ
  obtain ⟨e5, e8, e107, e108, e109⟩ := hρ
  unfold F4L1
  simp only [e5, e8, e107, e108, e109]
  refine rLt <| sIfD (fun hlt => ?_) (fun hge => ?_)
  · have hlt : j < l.length := by omega
    have hx : (l.map it)[j]? = some (it l[j]) := by simp [hlt]
    refine (h.rw (i := 0) rfl).rd1 hx ?_
    refine ⟨fun W => Cs W (ad 2428) [pt (ad 25) 0, rv m (lP 188 0), pt (ad 1754) 0] ∧ Cs W b8 [it 801, it 0], ⟨h.drew.get (i := 4) rfl, h.drew.get (i := 5) rfl⟩, ?_⟩
    refine rNil <| rFA0 <| rLdI (fun W hW => hW.1) (v := pt (ad 1754) 0) rfl ?_
    refine rLdIN (o := 0) (cs := [it 801, it 0]) (xs := [it 801, it 0]) (fun W hW => hW.2) rfl (by intro j x hj; rw [Nat.zero_add]; exact hj) ?_
    refine ⟨?_, trivial⟩
    have h1 := toFront (A := [.rw 1 wv l.length (l.map it) bl]) (B := procsL { g with HG := HG, AG := AG } κ (gf_q m ad)) (C := sigR m ad b7 b8) h.drew
    have hdrop : l.drop j = l[j] :: l.drop (j + 1) := List.drop_eq_getElem_cons hlt
    refine sigTake h1 ks (fun hn => by rw [hdrop] at hn; cases hn) (fun n r hl w' HG' AG' κ' ks' h2 => ?_)
    rw [hdrop] at hl
    cases hl
    have h3 := toFront (A := procsL { g with HG := HG', AG := AG' } κ' (gf_q m ad)) (B := [.rw 1 wv l.length (l.map it) bl]) (C := sigR m ad b7 b8) h2
    have h3 : Lx F w0 w' (.rw 1 wv l.length (l.map it) bl :: (procsL { g with HG := HG', AG := AG' } κ' (gf_q m ad) ++ sigR m ad b7 b8)) := h3
    refine ⟨⟨h3.get (i := 4) rfl, h3.get (i := 5) rfl⟩, rExt0 (rExt1 ?_)⟩
    refine rNe (rBool ?_)
    rw [if_neg (by decide)]
    refine rNe (rBool ?_)
    rw [if_neg (by simp)]
    refine rAdd (by omega) (by omega) ?_
    have e1 : ((j : Int) + 1) = ((j + 1 : Nat) : Int) := by omega
    rw [e1]
    refine ⟨⟨by trivial, j + 1, HG', AG', κ', hlt, by trivial, ks', h3⟩, ?_⟩
    show l.length + 1 - (j + 1) < l.length + 1 - j
    omega
  · have hj : j = l.length := by omega
    subst hj
    rw [List.drop_length] at ks
    refine ⟨fun W => Cs W (ad 2428) [pt (ad 25) 0, rv m (lP 188 0), pt (ad 1754) 0] ∧ Cs W b8 [it 801, it 0], ⟨h.drew.get (i := 4) rfl, h.drew.get (i := 5) rfl⟩, ?_⟩
    refine rNil <| rFA0 <| rLdI (fun W hW => hW.1) (v := pt (ad 1754) 0) rfl ?_
    refine rLdIN (o := 0) (cs := [it 801, it 0]) (xs := [it 801, it 0]) (fun W hW => hW.2) rfl (by intro j x hj; rw [Nat.zero_add]; exact hj) ?_
    refine ⟨?_, trivial⟩
    have h1 := toFront (A := [.rw 1 wv l.length (l.map it) bl]) (B := procsL { g with HG := HG, AG := AG } κ (gf_q m ad)) (C := sigR m ad b7 b8) h.drew
    refine signal_spec (g := { g with HG := HG, AG := AG }) (κ := κ) (q := gf_q m ad) (rs := gf_rs) h1 ks.pw (ks.mine _ rfl) ks.runs801 me801 (fun w' HG' AG' h2 => ?_)
    have h3 := toFront (A := procsL { g with HG := HG', AG := AG' } (κ.take 801).2.2 (gf_q m ad)) (B := [.rw 1 wv l.length (l.map it) bl]) (C := sigR m ad b7 b8) h2
    have h3 : Lx F w0 w' (.rw 1 wv l.length (l.map it) bl :: (procsL { g with HG := HG', AG := AG' } (κ.take 801).2.2 (gf_q m ad) ++ sigR m ad b7 b8)) := h3
    refine ⟨⟨h3.get (i := 4) rfl, h3.get (i := 5) rfl⟩, rExt0 (rExt1 ?_)⟩
    rw [ks.take0]
    refine rEq ?_
    unfold leaveV
    exact hk w' h3.fr

theorem sig_end {l : List Int} {wv sv tv : Value} {W : World} {K : Value → World → Prop} {ns i : Nat} {ag2 : List Value → List Nat → World → Prop} {bt : Bool} (hI : sigI F w0 W m ad b7 b8 g l l wv) (hi : i < 9223372036854775807) (hbt : bt = true → l ≠ [])
    (k : ∀ w' l' wv', sigI F w0 w' m ad b7 b8 g l' l' wv' → ag2 [tv, pt (ad 2428) 0, pt b7 0, pt b8 0, wv', sv, it ns, it (i + 1 : Nat)] [] w')
    {ρ : Env} (hρ : [1, 5, 7, 8, 11, 42, 43, 44, 85].map ρ = [tv, pt (ad 2428) 0, pt b7 0, pt b8 0, wv, sv, it ns, it i, .bool bt]) : F4J6 K ag2 ρ [] W := by
  simp only [List.map_cons, List.map_nil, List.cons.injEq, and_true] at hρ
  obtain ⟨e1, e5, e7, e8, e11, e42, e43, e44, e85⟩ := hρ
  unfold F4J6
  simp only [e1, e5, e7, e8, e11, e42, e43, e44, e85]
  have ei : ((i : Int) + 1) = ((i + 1 : Nat) : Int) := by omega
  cases bt with
  | false =>
    refine rIfF ?_
    refine rAdd (by omega) (by omega) ?_
    rw [ei]
    exact k W l wv hI
  | true =>
    refine rIfT ?_
    obtain ⟨HG, AG, κ, bl, ks, h⟩ := hI
    refine ⟨fun W => Cs W (ad 2428) [pt (ad 25) 0, rv m (lP 188 0), pt (ad 1754) 0] ∧ Cs W b8 [it 801, it 0], ⟨h.drew.get (i := 4) rfl, h.drew.get (i := 5) rfl⟩, ?_⟩
    refine rNil <| rFA0 <| rLdI (fun W hW => hW.1) (v := pt (ad 1754) 0) rfl ?_
    refine rLdIN (o := 0) (cs := [it 801, it 0]) (xs := [it 801, it 0]) (fun W hW => hW.2) rfl (by intro j x hj; rw [Nat.zero_add]; exact hj) ?_
    refine ⟨?_, trivial⟩
    have h1 := toFront (A := [.rw 1 wv l.length (l.map it) bl]) (B := procsL { g with HG := HG, AG := AG } κ (gf_q m ad)) (C := sigR m ad b7 b8) h.drew
    refine sigTake h1 ks (fun hn => absurd hn (hbt rfl)) (fun n r hl w' HG' AG' κ' ks' h2 => ?_)
    have h3 := toFront (A := procsL { g with HG := HG', AG := AG' } κ' (gf_q m ad)) (B := [.rw 1 wv l.length (l.map it) bl]) (C := sigR m ad b7 b8) h2
    have h3 : Lx F w0 w' (.rw 1 wv l.length (l.map it) bl :: (procsL { g with HG := HG', AG := AG' } κ' (gf_q m ad) ++ sigR m ad b7 b8)) := h3
    refine ⟨⟨h3.get (i := 4) rfl, h3.get (i := 5) rfl⟩, rExt0 (rExt1 ?_)⟩
    refine rNe (rBool ?_)
    rw [if_neg (by decide)]
    subst hl
    refine (h3.rw (i := 0) rfl).rd1 (i := 0) (x := it n) rfl ?_
    refine rNe (rBool ?_)
    rw [if_neg (by simp)]
    refine RowW.cutlo (lo := 1) (h3.rw (i := 0) rfl) (by simp) (fun v' hr => ?_)
    refine rAdd (by omega) (by omega) ?_
    rw [ei]
    refine k w' r v' ⟨HG', AG', κ', bl, ks', ?_⟩
    exact h3.step (i := 0) (a' := .rw 1 v' r.length (r.map it) bl) rfl (Fr.refl _ _) (show RowW 1 w' v' r.length (r.map it) bl by simpa using hr) (fun k e => .inl e)

structure Ins (w : World) (v : Value) (xs : List Value) : Prop where
  shape : ∃ a c, v = .slice a xs.length c
  rd : ∀ {W : World} {i : Nat} {x : Value} {kd : IntKind} {K : Value → Prop}, Fr (fun _ => False) w W → xs[i]? = some x → K x → vIA (.slice 1) v (.int kd i) fun p => vLd .one p W K
theorem Ins.lenE {w : World} {v : Value} {xs : List Value} {es : Nat} (h : Ins w v xs) {K : Value → Prop} (k : K (it xs.length)) : vLen (.slice es) v K := by
  obtain ⟨a, c, rfl⟩ := h.shape
  exact k

theorem sig_rounds {ss : List Int} {tt : List Bool} {sv tv : Value} {W : World} {K : Value → World → Prop} (hs : Ins w0 sv (ss.map it)) (ht : Ins w0 tv (tt.map .bool))
    (hI : sigI (fun _ => False) w0 W m ad b7 b8 g [] [] nilS) (hk : ∀ w', Fr (fun _ => False) w0 w' → K (.bool true) w') :
    loopF [1, 5, 7, 8, 11, 42, 43, 44] [tv, pt (ad 2428) 0, pt b7 0, pt b8 0, nilS, sv, it ss.length, it 0] [] W (F4L2 (fun vs ds W => ∀ ρ : Env, [5, 8, 11].map ρ = vs → F4J1 K ρ ds W) K) := by
  refine ⟨fun vs ds W => ds = [] ∧ ∃ (i : Nat) (l : List Int) (wv : Value), i ≤ ss.length ∧ vs = [tv, pt (ad 2428) 0, pt b7 0, pt b8 0, wv, sv, it ss.length, it i] ∧ sigI (fun _ => False) w0 W m ad b7 b8 g l l wv,
    fun vs _ _ => match vs with | [_, _, _, _, _, _, _, .int _ i] => ss.length + 1 - i.toNat | _ => 0, ⟨rfl, 0, [], nilS, Nat.zero_le _, rfl, hI⟩, ?_⟩
  rintro ρ ds W ⟨rfl, i, l, wv, hi, hρ, hI⟩
  rw [hρ]
  simp only [List.map_cons, List.map_nil, List.cons.injEq, and_true] at hρ
  obtain ⟨e1, e5, e7, e8, e11, e42, e43, e44⟩ := hρ
  unfold F4L2
  simp only [e1, e5, e7, e8, e11, e42, e43, e44]
  have stop : ∀ ρ : Env, [5, 8, 11].map ρ = [pt (ad 2428) 0, pt b8 0, wv] → F4J1 K ρ [] W := by
    intro ρ hρ
    simp only [List.map_cons, List.map_nil, List.cons.injEq, and_true] at hρ
    exact sig_rest hI hk hρ.1 hρ.2.1 hρ.2.2
  refine rLt <| sIfD (fun hlt => ?_) (fun hge => stop)
  have hlt : i < ss.length := by omega
  obtain ⟨HG, AG, κ, bl, ks, h⟩ := hI
  have hx : (ss.map it)[i]? = some (it ss[i]) := by simp [hlt]
  refine hs.rd h.fr hx ?_
  refine rGe <| sIfD (fun _ => stop) (fun h40 => ?_)
  have hsv := sigV_le ss[i]
  refine sCv (rem31 (sCv ?_))
  have hw : IntKind.i64.wrap ((IntKind.u64.wrap ss[i]).tmod 31) = (IntKind.u64.wrap ss[i]).tmod 31 := by
    unfold sigV at hsv
    exact wrap_id (by omega) (by omega)
  rw [hw]
  refine rAdd (by unfold sigV at hsv; omega) (by unfold sigV at hsv; omega) ?_
  show joinF _ _ _
  have hc : (1 : Int) + (IntKind.u64.wrap ss[i]).tmod 31 = sigV ss[i] := rfl
  rw [hc]
  refine sJoin ?_
  have main : ∀ s : Int, 1 ≤ s → s ≤ 31 → s ≠ 9 → ∀ ρ : Env, [1, 5, 7, 8, 11, 12, 13, 42, 43, 44].map ρ = [tv, pt (ad 2428) 0, pt b7 0, pt b8 0, wv, it i, it s, sv, it ss.length, it i] →
      F4J4 K (fun vs ds' w' => (ds' = [] ∧ ∃ (i : Nat) (l : List Int) (wv : Value), i ≤ ss.length ∧ vs = [tv, pt (ad 2428) 0, pt b7 0, pt b8 0, wv, sv, it ss.length, it i] ∧ sigI (fun _ => False) w0 w' m ad b7 b8 g l l wv) ∧
        (match vs with | [_, _, _, _, _, _, _, .int _ i] => ss.length + 1 - i.toNat | _ => 0) < (match [tv, pt (ad 2428) 0, pt b7 0, pt b8 0, wv, sv, it ss.length, it i] with | [_, _, _, _, _, _, _, .int _ i] => ss.length + 1 - i.toNat | _ => 0)) ρ [] W := by
    intro s hs1 hs2 hs9 ρ hρ
    simp only [List.map_cons, List.map_nil, List.cons.injEq, and_true] at hρ
    obtain ⟨e1, e5, e7, e8, e11, e12, e13, e42, e43, e44⟩ := hρ
    unfold F4J4
    simp only [e1, e5, e7, e8, e11, e12, e13, e42, e43, e44]
    clear e1 e5 e7 e8 e11 e12 e13 e42 e43 e44
    -- what is behind a round
    have next : ∀ (w' : World) (l' : List Int) (wv' : Value), sigI (fun _ => False) w0 w' m ad b7 b8 g l' l' wv' →
        (([] : List Nat) = [] ∧ ∃ (i_1 : Nat) (l : List Int) (wv : Value), i_1 ≤ ss.length ∧ [tv, pt (ad 2428) 0, pt b7 0, pt b8 0, wv', sv, it ss.length, it (i + 1 : Nat)] = [tv, pt (ad 2428) 0, pt b7 0, pt b8 0, wv, sv, it ss.length, it i_1] ∧ sigI (fun _ => False) w0 w' m ad b7 b8 g l l wv) ∧ (ss.length + 1 - (i + 1) < ss.length + 1 - i) := by
      intro w' l' wv' hI'
      exact ⟨⟨rfl, i + 1, l', wv', hlt, rfl, hI'⟩, by omega⟩
    have tail : ∀ (w' : World) (l' : List Int) (wv' : Value), l' ≠ [] → sigI (fun _ => False) w0 w' m ad b7 b8 g l' l' wv' →
        ∀ (J : List Value → List Nat → World → Prop), (∀ bt : Bool, J [tv, pt (ad 2428) 0, pt b7 0, pt b8 0, wv', sv, it ss.length, it i, .bool bt] [] w') →
        (vLen (.slice 1) tv fun v78 => vBin (.int .i64) .lss (it i) v78 fun v79 => vBool v79 fun g => if g = true then
          (vIA (.slice 1) tv (it i) fun v83 => vLd .one v83 w' fun v84 => J [tv, pt (ad 2428) 0, pt b7 0, pt b8 0, wv', sv, it ss.length, it i, v84] [] w')
          else (J [tv, pt (ad 2428) 0, pt b7 0, pt b8 0, wv', sv, it ss.length, it i, .bool false] [] w')) := by
      intro w' l' wv' hne hI' J hJ
      obtain ⟨HG', AG', κ', bl', ks', h'⟩ := hI'
      refine ht.lenE ?_
      rw [List.length_map]
      refine rLt <| sIfD (fun hlt2 => ?_) (fun _ => hJ false)
      have hlt2 : i < tt.length := by omega
      have hx2 : (tt.map Value.bool)[i]? = some (.bool tt[i]) := by simp [hlt2]
      exact ht.rd h'.fr hx2 (hJ _)
    refine ⟨fun W => Cs W (ad 2428) [pt (ad 25) 0, rv m (lP 188 0), pt (ad 1754) 0] ∧ Cs W b7 [it 30, it 800], ⟨h.drew.get (i := 4) rfl, h.drew.get (i := 6) rfl⟩, ?_⟩
    refine rNil <| rFA0 <| rLdI (fun W hW => hW.1) (v := pt (ad 1754) 0) rfl ?_
    refine rLdIN (o := 0) (cs := [it 30, it 800]) (xs := [it 30, it 800]) (fun W hW => hW.2) rfl (by intro j x hj; rw [Nat.zero_add]; exact hj) ?_
    refine ⟨?_, trivial⟩
    have h1 := toFront (A := [.rw 1 wv l.length (l.map it) bl]) (B := procsL { g with HG := HG, AG := AG } κ (gf_q m ad)) (C := sigR m ad b7 b8) h.drew
    refine sigKill h1 ks hs1 hs2 hs9 (fun h8 w' HG' AG' h2 => ?_) (fun h8 w' HG' AG' κ' ks' h2 => ?_)
    · have h3 : Lx (fun _ => False) w0 w' (.rw 1 wv l.length (l.map it) bl :: (procsL { g with HG := HG', AG := AG' } κ (gf_q m ad) ++ sigR m ad b7 b8)) := toFront (A := procsL { g with HG := HG', AG := AG' } κ (gf_q m ad)) (B := [.rw 1 wv l.length (l.map it) bl]) (C := sigR m ad b7 b8) h2
      refine ⟨⟨h3.get (i := 4) rfl, h3.get (i := 6) rfl⟩, ?_⟩
      refine (h3.rw (i := 0) rfl).lenE ?_
      refine rEq (rBool ?_)
      rw [if_pos (by simp; omega)]
      refine rNe (rBool ?_)
      rw [if_neg (by decide)]
      refine sJoin ?_
      have hI' : sigI (fun _ => False) w0 w' m ad b7 b8 g l l wv := ⟨HG', AG', κ, bl, ks, h3⟩
      have hne : l ≠ [] := by intro e; subst e; simp at h8
      refine tail w' l wv hne hI' (fun vs ds W => ∀ ρ : Env, [1, 5, 7, 8, 11, 42, 43, 44, 85].map ρ = vs → F4J6 K _ ρ ds W) (fun bt ρ hρ => ?_)
      exact sig_end hI' (by omega) (fun _ => hne) (fun w2 l2 wv2 hI2 => next w2 l2 wv2 hI2) hρ
    · have h3 : Lx (fun _ => False) w0 w' (.rw 1 wv l.length (l.map it) bl :: (procsL { g with HG := HG', AG := AG' } κ' (gf_q m ad) ++ sigR m ad b7 b8)) := toFront (A := procsL { g with HG := HG', AG := AG' } κ' (gf_q m ad)) (B := [.rw 1 wv l.length (l.map it) bl]) (C := sigR m ad b7 b8) h2
      refine ⟨⟨h3.get (i := 4) rfl, h3.get (i := 6) rfl⟩, ?_⟩
      refine (h3.rw (i := 0) rfl).lenE ?_
      refine rEq (rBool ?_)
      rw [if_neg (by simp; omega)]
      refine rNe (rBool ?_)
      rw [if_neg (by decide)]
      refine sBuild1 Go.Proofs.YtdkklhnleppfcaaGreat.e42 h3 rfl (fun w2 b h3 => ?_)
      have hr : Go.V.Row w2 (Go.V.sv b 1 1) [it s] (some b) := h3.row (i := 0) rfl
      refine sAppW ew42 ew42.hu h3 (i := 1) rfl (k := 1) (ys := [it s]) rfl (fun K k => hr.src.2 K k) rfl (by simp [Value.oneCell']) (by omega) (fun w3 v' bl' h3 => ?_)
      have h4 : Lx (fun _ => False) w0 w3 (.rw 1 v' (l ++ [s]).length ((l ++ [s]).map it) bl' :: (procsL { g with HG := HG', AG := AG' } κ' (gf_q m ad) ++ sigR m ad b7 b8)) := by
        have e : (l ++ [s]).length = l.length + 1 := by simp
        have e2 : (l ++ [s]).map it = l.map it ++ [it s] := by simp
        rw [e, e2]
        exact h3.sub (List.sublist_cons_self _ _)
      refine sJoin ?_
      have hI' : sigI (fun _ => False) w0 w3 m ad b7 b8 g (l ++ [s]) (l ++ [s]) v' := ⟨HG', AG', κ', bl', ks', h4⟩
      have hne : l ++ [s] ≠ [] := by simp
      refine tail w3 (l ++ [s]) v' hne hI' (fun vs ds W => ∀ ρ : Env, [1, 5, 7, 8, 11, 42, 43, 44, 85].map ρ = vs → F4J6 K _ ρ ds W) (fun bt ρ hρ => ?_)
      exact sig_end hI' (by omega) (fun _ => hne) (fun w2 l2 wv2 hI2 => next w2 l2 wv2 hI2) hρ
  refine rEq (sIfE (fun h9 => ?_) (fun h9 => ?_))
  · exact main 10 (by omega) (by omega) (by omega)
  · exact main (sigV ss[i]) hsv.1 hsv.2 h9

end

theorem law_spec {w : World} {ss : List Int} {tt : List Bool} {sv tv : Value} (hs : Ins w sv (ss.map it)) (ht : Ins w tv (tt.map .bool))
    {K : Value → World → Prop} (hk : ∀ w', Fr (fun _ => False) w w' → K (.bool true) w') : Ret Tryz.prog 4 #[sv, tv] w K := by
  apply F4_ok
  unfold F4
  refine sClosed' ll_ok rfl (Lx.start (fun _ => False) w) (as' := []) .nil (fun m v w2 hv hL => ?_)
  rw [VR.bool_eq (show VR m (.bool true) v from hv)]
  refine rNot (rBool ?_)
  rw [if_neg (by decide)]
  have hL := Go.X.Lx.st hL (N := 0) (ex := []) (Nat.zero_le _) (by intro a ha; cases ha)
  refine sMem s1_ok hL (i := 0) (m := ren0 0 [] w2) rfl (as' := []) .nil (fun m1 v w3 hm hv hL => ?_)
  have hv : VR m1 (lT [lP 2428 0, lP 2435 0]) v := hv
  cases hv with
  | tup hs' =>
  cases hs' with
  | cons hx hs' =>
  cases hs' with
  | cons hy hs' =>
  cases hs'
  refine rExt0 (rExt1 ?_)
  rename_i v64 v65
  refine build36a ?_
  refine sAlloc zc36 hL (fun w4 b7 hL => ?_)
  refine sStN hL (i := 0) rfl rfl (by simp) (two_one _ _) (fun w5 hL => ?_)
  refine build36b ?_
  refine sAlloc zc36 hL (fun w6 b8 hL => ?_)
  refine sStN hL (i := 0) rfl rfl (by simp) (two_one _ _) (fun w7 hL => ?_)
  have hL : Lx (fun _ => False) w w7 (.blk b8 [it 801, it 0] :: .blk b7 [it 30, it 800] :: As.st 0 m1 s1b :: []) := hL
  have hL := toFront (A := [.blk b8 [it 801, it 0], .blk b7 [it 30, it 800]]) (B := [As.st 0 m1 s1b]) (C := []) hL
  have hL : Lx (fun _ => False) w w7 (As.st 0 m1 s1b :: [.blk b8 [it 801, it 0], .blk b7 [it 30, it 800]]) := hL
  -- the world of the law
  obtain ⟨a, o, rfl, hma⟩ : ∃ a o, v64 = pt a o ∧ ∃ e, m1 2428 = some ⟨a, o, e⟩ := by
    cases hx with
    | ptr h => rename_i at'; exact ⟨at'.blk, at'.off + 0, rfl, at'.extra, by rw [Nat.add_zero]; exact h⟩
  obtain ⟨e, hma⟩ := hma
  have hx2 : VR m1 (lP 2428 2) (pt a (o + 2)) := .ptr (a := ⟨a, o, e⟩) hma
  obtain ⟨y, hy1, hy2⟩ := ldX_cell hL (i := 0) rfl hx2 (v := lP 1754 0) (by kernel_rfl)
  refine ⟨fun W => W.cell? ⟨a, o + 2, none⟩ = some y ∧ Cs W b7 [it 30, it 800], ⟨hy1, hL.get (i := 2) rfl⟩, ?_⟩
  refine rNil <| rFA <| rLdCell (fun W hW => hW.1) ?_
  refine rLdIN (o := 0) (cs := [it 30, it 800]) (xs := [it 30, it 800]) (fun W hW => hW.2) rfl (by intro j x hj; rw [Nat.zero_add]; exact hj) ?_
  refine ⟨?_, trivial⟩
  refine sMem gf_ok hL.drew (i := 0) (m := m1) rfl (as' := [y, .agg #[it 30, it 800]]) (.cons hy2 (.cons (.agg (.cons (.int _ _) (.cons (.int _ _) .nil))) .nil)) (fun m2 v w8 hm2 hv hL => ?_)
  rw [VR.fun (show VR m2 (lT [lI 2, lI 0]) v from hv) (.tup (.cons (.int _ _) (.cons (.int _ _) .nil)))]
  have hL : Lx (fun _ => False) w w8 (As.st 0 m2 gfb :: [.blk b8 [it 801, it 0], .blk b7 [it 30, it 800]]) := hL
  obtain ⟨y', hy3, hy4⟩ := ldX_cell hL (i := 0) rfl (hx2.imp hm2) (v := lP 1754 0) (by kernel_rfl)
  have hyy : y' = y := VR.fun hy4 (hy2.imp hm2)
  rw [hyy] at hy3
  refine ⟨⟨hy3, hL.get (i := 2) rfl⟩, rExt0 (rExt1 ?_)⟩
  refine rNe (rBool ?_)
  rw [if_neg (by decide)]
  refine sJoin ?_
  refine hs.lenE ?_
  rw [List.length_map]
  obtain ⟨ad, ex, hx3, hL⟩ := gf_open hL
  have hmm := hm2 _ _ hma
  rw [hmm] at hx3
  cases hx3
  exact sig_rounds (g := gf_g m2 ad ex) hs ht ⟨(gf_g m2 ad ex).HG, (gf_g m2 ad ex).AG, gf_κ, none, ks0, hL.add (a := .rw 1 nilS 0 [] none) (Fr.refl _ _) (RowW.nil 1 w8) (fun k e => by cases (show none = some k from e))⟩ hk

end Go.Proofs.YtdkklhnleppfcaaGreat

/-
  ProcsSignals's row: the closed facts. Own work.
-/
namespace Go.Proofs.YtdkklhnleppfcaaGreat
open Go.ChangeMaps Go Go.V Go.ChangeShapes Go.WideShapes Go.ChangeAt Go.RowKit
set_option linter.unusedVariables false
set_option maxRecDepth 100000

theorem own3 : ownKnob Tryz.prog.godebug = none := by kernel_rfl

theorem spec4 (H : Type) (ds : List (DataW H)) (h : ds.length = Tryz.f4.params.toList.length) : Rows.procsSignalsSpec.fn H ds = { results := [.lit (.bool true)], args := ds } := by
  rw [Tryz.params4] at h
  match ds, h with
  | [d0, d1], _ => rfl

noncomputable def boolT4 : Nat := match Tryz.f4.resultTypes.toList with
  | [t] => t
  | _ => 0
theorem law4B : lawB Tryz.prog Tryz.f4 boolT4 = true := by kernel_rfl

theorem witness4 {H : Type} (enc : TypeId × Value → H) (os : Os) : ∃ (w : World) (tape : Tape) (i : Input), w.os = os ∧ (w.forCall tape i).Shaped Tryz.checked.prog ∧ i.vars = [] ∧ Input.okWide Tryz.checked.prog (w.forCall tape i) .any w.heap.size 4 i ∧
      Rows.procsSignalsSpec.pre6 enc Tryz.checked.prog Tryz.f4 Rows.procsSignalsRow.domain false (w.forCall tape i).memory i.args ∧ ({} : Assume).holds Tryz.checked.prog (lone (Frame.enter Tryz.checked.prog 4 i.args .normal) [] (w.forCall tape i)) :=
  ChangeSpec.witness6 (enc := enc) (C := Tryz.checked) false ⟨#[], #[.slice none 0 0, .slice none 0 0], []⟩ 8 (by kernel_rfl) (by kernel_rfl) (by kernel_rfl) (by kernel_rfl)

theorem j_place : (Rows.procsSignalsRow.inPlace == Tryz.prog.inPlace 4) = true := by kernel_rfl
theorem j_unf : (Rows.procsSignalsRow.unfollowed == Tryz.prog.unfollowed 4) = true := by kernel_rfl
theorem j_rec : (Rows.procsSignalsRow.recurses == Tryz.prog.recurses 4) = true := by kernel_rfl
theorem j_named : (Rows.procsSignalsRow.named == Tryz.prog.varsNamed 4) = true := by kernel_rfl
theorem j_enter : Tryz.prog.mayEnter = true := by kernel_rfl
theorem j_lift : (Rows.procsSignalsRow.lifted == Tryz.prog.liftsFinal) = true := by kernel_rfl
theorem j_make : (Tryz.prog.make == some Rows.procsSignalsRow.make) = true := by kernel_rfl
theorem j_heard : Tryz.prog.stopsHeard = true := by kernel_rfl
theorem j_laid : laidOutB Tryz.prog = true := by kernel_rfl
theorem j_maps : mapsRowed Tryz.prog = true := by kernel_rfl
theorem closed4 : joinedFacts Tryz.prog 4 Tryz.f4 Rows.procsSignalsSpec Rows.procsSignalsRow = true := by
  unfold joinedFacts
  rw [j_place, j_unf, j_rec, j_named, j_enter, j_lift, j_make, j_heard, j_laid, j_maps]
  kernel_rfl
theorem fn4 : Tryz.prog.funcNamed Rows.procsSignalsRow.func = some 4 := by kernel_rfl
theorem inst4 : Tryz.f4.isInstance Tryz.prog Rows.procsSignalsRow.origin Rows.procsSignalsRow.targs := of_decide_eq_true (by kernel_rfl)
theorem wrap4 : Tryz.f4.isWrapper Tryz.prog Rows.procsSignalsRow.wrapper Rows.procsSignalsRow.mainSum := by unfold Func.isWrapper; first | (rw [if_pos (by decide +kernel)]; kernel_rfl) | (rw [if_neg (by decide +kernel)]; exact ⟨rfl, rfl⟩)

end Go.Proofs.YtdkklhnleppfcaaGreat

/-
  ProcsSignals returns true for every input, and changes no argument. (No condition.) Own work.
-/
namespace Go.Proofs.YtdkklhnleppfcaaGreat
open Go.ChangeMaps Go Go.V Go.X Go.ChangeShapes Go.WideShapes Go.ChangeAt Go.RowKit
set_option linter.unusedVariables false
set_option maxRecDepth 100000

section
variable {H : Type} {enc : TypeId × Value → H}

theorem cInt : Tryz.prog.cellsOf 3 = 1 := by kernel_rfl
theorem cBool : Tryz.prog.cellsOf 4 = 1 := by kernel_rfl

theorem open_row {W : World} {t e : TypeId} {α : Type} (f : α → Value) (hu : Tryz.prog.underlying t = some (.slice e)) (hc : Tryz.prog.cellsOf e = 1)
    (he : ∀ {fuel : Nat} {cs : List Value} {x : DataW H × List MemPlace}, DataW.trod enc Tryz.prog W 0 (fun _ => true) true fuel e cs = some x → ∃ a, cs = [f a])
    {v : Value} {d : DataW H} {b : Nat} {ps : List MemPlace} (hv : Value.okWide Tryz.prog W .any b t v) (h : DataW.Trod enc Tryz.prog W 0 (fun _ => true) true t v d ps) : ∃ xs : List α, Ins W v (xs.map f) := by
  obtain ⟨fuel, h⟩ := h
  obtain ⟨a1, ln, cp, rfl⟩ := okWide_slice hu hv
  have h' : DataW.trod enc Tryz.prog W 0 (fun _ => true) true fuel t [.slice a1 ln cp] = some (d, ps) := h
  rcases DataW.trod_slice hu h' with ⟨hv, _⟩ | ⟨a, len, cap, elems, rest, n, _, hv, hd, _, hle, hm, hlen, hel, _, _⟩
  · simp only [List.cons.injEq, and_true] at hv
    rw [hv]
    exact ⟨[], ⟨_, _, rfl⟩, fun _ hi => by simp at hi⟩
  · simp only [List.cons.injEq, and_true] at hv
    rw [hv]
    have each : ∀ i, i < len → ∃ x : α, W.cell? (a.add i) = some (f x) := by
      intro i hi
      have h1 := hel i hi
      rw [hc, Nat.mul_one, List.getElem?_eq_getElem (by omega)] at h1
      obtain ⟨cs, hcs, ht⟩ := Option.bind_eq_some_iff.1 h1
      obtain ⟨x, rfl⟩ := he ht
      refine ⟨x, ?_⟩
      have hc := (World.cells?_some hcs).2.2 0 (by simp)
      exact hc
    obtain ⟨xs, hxs, get⟩ := exists_list len each
    refine ⟨xs, ⟨_, _, by rw [List.length_map, hxs]⟩, ?_⟩
    intro W' i x kd K fr hi k
    have hlt := (List.getElem?_eq_some_iff.1 hi).1
    rw [List.length_map, hxs] at hlt
    rw [List.getElem?_map] at hi
    obtain ⟨y, hy, rfl⟩ := Option.map_eq_some_iff.1 hi
    refine ⟨by omega, by omega, ?_⟩
    rw [Int.toNat_natCast, Nat.mul_one]
    have := cell_fr (get i y hy) fr
    show ld1 W' (a.add i) K
    unfold ld1
    rw [this]
    exact k

end

theorem lifted4 (os : Os) (started : os.Started) (H : Type) (enc : TypeId × Value → H) :
    ReturnsInHanded {} Tryz.checked os 4 .any (Rows.procsSignalsSpec.pre6 enc Tryz.prog Tryz.f4 Rows.procsSignalsRow.domain false) (Rows.procsSignalsSpec.post enc Tryz.prog Tryz.f4 false true false false) := by
  refine returnsInHanded_of_change (C := Tryz.checked) own3 started (by kernel_rfl) Tryz.func4
    (witness4 enc os) ?_
  intro W base args ds gs before hval0 hW _ _
  have hval : ∀ (j : Nat) t v, Tryz.f4.params[j]? = some t → args[j]? = some v → Value.okWide Tryz.prog W .any base t v := hval0
  refine true_calls boolT4 law4B rfl (spec4 H) hW fun ps hA => ?_
  rw [Tryz.params4] at hA hval
  obtain ⟨v0, vs0, d0, ds0, p0, q0, hargs, rfl, rfl, h0, r0⟩ := trodAll_cons hA
  obtain ⟨v1, vs1, d1, ds1, p1, q1, hargs1, rfl, rfl, h1, r1⟩ := trodAll_cons r0
  obtain ⟨rfl, rfl, rfl⟩ := trodAll_nil r1
  obtain rfl : args = #[v0, v1] := by cases args; simp_all
  obtain ⟨ss, hs⟩ := open_row it Tryz.underlying42 cInt (fun h => by obtain ⟨n, hn, _⟩ := DataW.trod_int Tryz.underlying3 h; exact ⟨n, hn⟩) (hval 0 42 v0 rfl rfl) h0
  obtain ⟨tt, ht⟩ := open_row Value.bool Tryz.underlying43 cBool (fun h => by obtain ⟨n, hn, _⟩ := DataW.trod_bool Tryz.underlying4 h; exact ⟨n, hn⟩) (hval 1 43 v1 rfl rfl) h1
  exact law_spec hs ht fun w' f => ⟨rfl, f⟩

theorem procsSignals_holds : Rows.ProcsSignalsSaid :=
  OpenClaim.holds_of_wide 4 Tryz.f4 rfl rfl rfl rfl rfl rfl rfl ⟨rfl, rfl, rfl, rfl, rfl⟩ rfl rfl rfl rfl rfl fn4 Tryz.func4 closed4 inst4 wrap4
    (fun os started H enc _ => lifted4 os started H enc)
end Go.Proofs.YtdkklhnleppfcaaGreat
