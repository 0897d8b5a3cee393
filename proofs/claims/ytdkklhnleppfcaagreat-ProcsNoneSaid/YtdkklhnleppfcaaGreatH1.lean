/-
  Procs: numbers.List does what the executor does at once in its place. Own work.
-/
import Derived.Test.YtdkklhnleppfcaaGreatFsL
import Derived.Test.YtdkklhnleppfcaaGreatXD
set_option linter.unusedVariables false
set_option linter.unusedSimpArgs false

set_option linter.unusedVariables false
set_option linter.unusedSimpArgs false
set_option maxRecDepth 100000
namespace Go.Proofs.YtdkklhnleppfcaaGreat
open Go Go.V Go.X Go.RowKit

theorem eInts : E1 Tryz.prog 42 3 (it 0) := ⟨by kernel_rfl, infoOf (by kernel_rfl), by kernel_rfl, by kernel_rfl⟩

theorem le_take {l : List UInt8} {i : Nat} {b : UInt8} (hb : l[i]? = some b) : l.take (i + 1) = l.take i ++ [b] := by
  rw [List.take_add_one, hb]; rfl

theorem list_ok : ListOK Tryz.prog 182 := by
  intro L w K h8 hmax hK
  apply Ret.call
  apply F182_ok
  unfold F182
  have hL := (Lx.start (fun _ => False) w).nilRow
  refine ⟨fun vs ds W => ds = [] ∧ ∃ (l : List UInt8) (done : List Int) (v : Value) (bl : Option Nat), vs = [str l, v] ∧ l.length ≤ L.length ∧ 8 * done.length + l.length = L.length ∧ done ++ leInts (l.length / 8) l = leInts (L.length / 8) L ∧
      Lx (fun _ => False) w W [.row v (done.map fun n => .int .i64 n) bl],
    fun vs _ _ => match vs with | [.string s, _] => s.size | _ => 0, ⟨rfl, L, [], _, none, rfl, Nat.le_refl _, by simp, rfl, hL⟩, ?_⟩
  rintro ρ ds W ⟨rfl, l, done, v, bl, hρ, hl, hlen, hd, hL⟩
  rw [hρ]
  simp only [List.map_cons, List.map_nil, List.cons.injEq, and_true] at hρ
  obtain ⟨e0, e3⟩ := hρ
  unfold F182L1
  simp only [e0, e3]
  refine rLenB <| rGe <| sIfD (fun hge => ?_) (fun hlt => ?_)
  · have hge : 8 ≤ l.length := by omega
    refine ⟨fun vs ds W' => ds = [] ∧ ∃ (i : Nat), i ≤ 8 ∧ vs = [str l, v, it (leAcc 0 0 (l.take i)), it i] ∧ W' = W,
      fun vs _ _ => match vs with | [_, _, _, .int _ i] => 8 - i.toNat | _ => 0, ⟨rfl, 0, by omega, by simp [leAcc], rfl⟩, ?_⟩
    rintro ρ' ds' W' ⟨rfl, i, hi, hρ', rfl⟩
    rw [hρ']
    simp only [List.map_cons, List.map_nil, List.cons.injEq, and_true] at hρ'
    obtain ⟨e0', e3', e4', e11'⟩ := hρ'
    unfold F182L2
    simp only [e0', e3', e4', e11']
    refine rLt <| sIfD (fun hlt => ?_) (fun hnl => ?_)
    · have hlt : i < 8 := by omega
      obtain ⟨b, hb⟩ : ∃ b, l[i]? = some b := ⟨_, List.getElem?_eq_getElem (by omega)⟩
      refine rIxS hb ?_
      refine rCv ⟨rfl, ⟨?_, ?_⟩⟩
      · show (0 : Int) ≤ IntKind.i64.wrap (8 * (i : Int))
        rw [wrap_id (by omega) (by omega)]; omega
      · refine ⟨rfl, ?_⟩
        refine rAdd (by omega) (by omega) ⟨⟨by trivial, i + 1, by omega, ?_, by trivial⟩, by simp; omega⟩
        rw [le_take hb, leAcc_snoc]
        have : (l.take i).length = i := by rw [List.length_take]; omega
        rw [this, Nat.zero_add]
        rfl
    · have hi : i = 8 := by omega
      subst hi
      refine sApp1 eInts hL (i := 0) rfl rfl (by simp; omega) (fun w2 v2 bl2 hL hne2 => ?_)
      refine rSlStrLo (by omega) ⟨⟨by trivial, l.drop 8, done ++ [leAcc 0 0 (l.take 8)], v2, bl2, rfl, by simp; omega, by simp; omega, ?_, ?_⟩, by simp [ByteArray.size]; omega⟩
      · rw [← hd]
        have e : l.length / 8 = (l.drop 8).length / 8 + 1 := by rw [List.length_drop]; omega
        rw [e]
        show _ = done ++ (leAcc 0 0 (l.take 8) :: leInts _ (l.drop 8))
        simp
      · rw [List.map_append]
        exact hL
  · have hz : l.length / 8 = 0 := by omega
    rw [hz] at hd
    simp only [leInts, List.append_nil] at hd
    have hdl : done.length = L.length / 8 := by rw [hd, leInts_len]
    cases bl with
    | none =>
      have hr := hL.row (i := 0) rfl
      have h0 := hr.2
      have : done = [] := by simpa using h0
      rw [this] at hdl
      simp at hdl
      omega
    | some b =>
      refine hK W v b ?_ ((hL.mine _ (List.mem_singleton.2 rfl) b rfl).elim False.elim id) hL.fr
      rw [← hd]
      exact hL.row (i := 0) rfl
end Go.Proofs.YtdkklhnleppfcaaGreat
