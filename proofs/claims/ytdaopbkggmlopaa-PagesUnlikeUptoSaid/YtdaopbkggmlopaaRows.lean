/-
  No cell of these rows narrows 'for every input' (looked for: loops, veiled, ifaces, maps, wideKeys, modest, calm, conditions, laid).
  DERIVED. THE GIVEN ROWS OF THIS SEAT. 5 by the template 'for every input the law returns true; each argument reads behind the call as it read before'; 0 by the template 'total and deterministic' (their statements: YtdaopbkggmlopaaTotals.lean).
  GIVEN WITH THE SEED: the statements are not yours to turn. If you find one false, say at which input.
  Laid BY PROGRAM, IN A SANDBOX (cutbox-rows.mjs): the forced cells as the released guide's own fill.sh prints them over the translation 2b0a97aa1ed90a56… (all of the seat's roots in one cut). By AI agents, Wed Nov 11 2026. No macro, syntax, notation, axiom, sorry.
-/
import Derived.Test.YtdaopbkggmlopaaChecked
import GoSem.Claim
import GoSem.ClaimJoined
import GoSem.ClaimMapViews
import Derived.JoinedTies
import Derived.KernelRfl
namespace Go.Proofs.Ytdaopbkggmlopaa
/- THE CELL 'sum', in the pinned program and in every row, IS THE sha256 OF THE DUMP (.gsa) THAT YtdaopbkggmlopaaProg.lean LOADS. Nothing in Lean hashes anything: it is a label: what it is worth is what the hold of that sum in a sandbox is worth. -/
noncomputable def Try.pinned : Pinned := { name := "ytdaopbkggmlopaa", sum := "2b0a97aa1ed90a567b2b26506bea9ae7fa94aa0dbd55a93a3945917a02e35724", checked := Try.checked }
namespace Rows
def none {H : Type} : Left H := { results := [], args := [] }

/-- 'gatehouselaw03.PagesWrites': WHATEVER THE INPUT: true; the input reads as it did. -/
def pagesWritesSpec : ChangeSpec := { name := "pagesWrites", fn := fun _ => fun
  | [d1, d2, d3, d4] => { results := [.lit (.bool true)], args := [d1, d2, d3, d4] }
  | _ => none }
def pagesWritesRow : OpenClaim := { program := "ytdaopbkggmlopaa", sum := "2b0a97aa1ed90a567b2b26506bea9ae7fa94aa0dbd55a93a3945917a02e35724", func := "gatehouse/gatehouselaw03.PagesWrites", spec := "pagesWrites", inPlace := ["internal/abi.NoEscape", "internal/bytealg.MakeNoZero"], unfollowed := true, recurses := true, apart := false }
def PagesWritesSaid : Prop := pagesWritesRow.holds Try.pinned (OpenSpec.ofChange pagesWritesSpec)

/-- ITS FALSE NEIGHBOUR: 'it returns false'. Refute it at one input. -/
def pagesWritesWrong : ChangeSpec := { name := "pagesWrites", fn := fun _ => fun
  | [d1, d2, d3, d4] => { results := [.lit (.bool false)], args := [d1, d2, d3, d4] }
  | _ => none }
def PagesWritesWrongFalsely : Prop := pagesWritesRow.holds Try.pinned (OpenSpec.ofChange pagesWritesWrong)

/-- 'gatehouselaw03.PagesSizes': WHATEVER THE INPUT: true; the input reads as it did. -/
def pagesSizesSpec : ChangeSpec := { name := "pagesSizes", fn := fun _ => fun
  | [d1, d2] => { results := [.lit (.bool true)], args := [d1, d2] }
  | _ => none }
def pagesSizesRow : OpenClaim := { program := "ytdaopbkggmlopaa", sum := "2b0a97aa1ed90a567b2b26506bea9ae7fa94aa0dbd55a93a3945917a02e35724", func := "gatehouse/gatehouselaw03.PagesSizes", spec := "pagesSizes", inPlace := ["internal/abi.NoEscape", "internal/bytealg.MakeNoZero"], unfollowed := true, recurses := true, apart := false }
def PagesSizesSaid : Prop := pagesSizesRow.holds Try.pinned (OpenSpec.ofChange pagesSizesSpec)

/-- ITS FALSE NEIGHBOUR: 'it returns false'. Refute it at one input. -/
def pagesSizesWrong : ChangeSpec := { name := "pagesSizes", fn := fun _ => fun
  | [d1, d2] => { results := [.lit (.bool false)], args := [d1, d2] }
  | _ => none }
def PagesSizesWrongFalsely : Prop := pagesSizesRow.holds Try.pinned (OpenSpec.ofChange pagesSizesWrong)

/-- 'gatehouselaw03.PagesPlay': WHATEVER THE INPUT: true; the input reads as it did. -/
def pagesPlaySpec : ChangeSpec := { name := "pagesPlay", fn := fun _ => fun
  | [d1, d2] => { results := [.lit (.bool true)], args := [d1, d2] }
  | _ => none }
def pagesPlayRow : OpenClaim := { program := "ytdaopbkggmlopaa", sum := "2b0a97aa1ed90a567b2b26506bea9ae7fa94aa0dbd55a93a3945917a02e35724", func := "gatehouse/gatehouselaw03.PagesPlay", spec := "pagesPlay", inPlace := ["internal/abi.NoEscape", "internal/bytealg.MakeNoZero"], unfollowed := true, recurses := true, apart := false }
def PagesPlaySaid : Prop := pagesPlayRow.holds Try.pinned (OpenSpec.ofChange pagesPlaySpec)

/-- ITS FALSE NEIGHBOUR: 'it returns false'. Refute it at one input. -/
def pagesPlayWrong : ChangeSpec := { name := "pagesPlay", fn := fun _ => fun
  | [d1, d2] => { results := [.lit (.bool false)], args := [d1, d2] }
  | _ => none }
def PagesPlayWrongFalsely : Prop := pagesPlayRow.holds Try.pinned (OpenSpec.ofChange pagesPlayWrong)

/-- 'gatehouselaw03.PagesUnlike': WHATEVER THE INPUT: true; the input reads as it did. -/
def pagesUnlikeSpec : ChangeSpec := { name := "pagesUnlike", fn := fun _ => fun
  | [d1, d2, d3, d4] => { results := [.lit (.bool true)], args := [d1, d2, d3, d4] }
  | _ => none }
def pagesUnlikeRow : OpenClaim := { program := "ytdaopbkggmlopaa", sum := "2b0a97aa1ed90a567b2b26506bea9ae7fa94aa0dbd55a93a3945917a02e35724", func := "gatehouse/gatehouselaw03.PagesUnlike", spec := "pagesUnlike", inPlace := ["internal/abi.NoEscape", "internal/bytealg.MakeNoZero"], unfollowed := true, recurses := true, apart := false }
def PagesUnlikeSaid : Prop := pagesUnlikeRow.holds Try.pinned (OpenSpec.ofChange pagesUnlikeSpec)

/-- ITS FALSE NEIGHBOUR: 'it returns false'. Refute it at one input. -/
def pagesUnlikeWrong : ChangeSpec := { name := "pagesUnlike", fn := fun _ => fun
  | [d1, d2, d3, d4] => { results := [.lit (.bool false)], args := [d1, d2, d3, d4] }
  | _ => none }
def PagesUnlikeWrongFalsely : Prop := pagesUnlikeRow.holds Try.pinned (OpenSpec.ofChange pagesUnlikeWrong)

/-- 'gatehouselaw03.PagesWords': WHATEVER THE INPUT: true; the input reads as it did. -/
def pagesWordsSpec : ChangeSpec := { name := "pagesWords", fn := fun _ => fun
  | [d1, d2, d3, d4] => { results := [.lit (.bool true)], args := [d1, d2, d3, d4] }
  | _ => none }
def pagesWordsRow : OpenClaim := { program := "ytdaopbkggmlopaa", sum := "2b0a97aa1ed90a567b2b26506bea9ae7fa94aa0dbd55a93a3945917a02e35724", func := "gatehouse/gatehouselaw03.PagesWords", spec := "pagesWords", inPlace := ["internal/abi.NoEscape", "internal/bytealg.MakeNoZero"], unfollowed := true, recurses := true, apart := false }
def PagesWordsSaid : Prop := pagesWordsRow.holds Try.pinned (OpenSpec.ofChange pagesWordsSpec)

/-- ITS FALSE NEIGHBOUR: 'it returns false'. Refute it at one input. -/
def pagesWordsWrong : ChangeSpec := { name := "pagesWords", fn := fun _ => fun
  | [d1, d2, d3, d4] => { results := [.lit (.bool false)], args := [d1, d2, d3, d4] }
  | _ => none }
def PagesWordsWrongFalsely : Prop := pagesWordsRow.holds Try.pinned (OpenSpec.ofChange pagesWordsWrong)

/- THE SECOND FORM. 'bulk': how many values and letters a reading holds, each counted each time it is reached (what is shared counts as often as it is met; a slice's spare places count too). A statement '..UptoSaid' is the law's where the arguments, and the package variables that the reading takes, are together of bulk at most 1048576: NARROWER than '..Said'. Prove '..Said' where nothing that the law and all that it calls make is longer than what came in: it says more and counts as full. Else prove '..UptoSaid'. A law counts once. -/
mutual
def uptoBulk {H : Type} : DataW H → Nat
  | .lit (.string bytes) => bytes.length + 1
  | .lit _ => 1
  | .nil => 1
  | .ptr d => uptoBulk d + 1
  | .slice elems spare => uptoBulkAll elems + uptoBulkAll spare + 1
  | .agg parts => uptoBulkAll parts + 1
  | .iface _ d => uptoBulk d + 1
  | .map entries => uptoBulkEntries entries + 1
  | .held _ => 1
def uptoBulkAll {H : Type} : List (DataW H) → Nat
  | [] => 0
  | d :: r => uptoBulk d + uptoBulkAll r
def uptoBulkEntries {H : Type} : List (Lit × DataW H) → Nat
  | [] => 0
  | x :: r => uptoBulkEntry x + uptoBulkEntries r
def uptoBulkEntry {H : Type} : Lit × DataW H → Nat
  | (.string bytes, d) => bytes.length + uptoBulk d + 1
  | (_, d) => uptoBulk d + 1
 end
def uptoSmall : (H : Type) → List (DataW H) → Bool := fun _ ds => decide (uptoBulkAll ds ≤ 1048576)
def OpenSpec.upto (s : _root_.Go.ChangeSpec) : _root_.Go.OpenSpec := { _root_.Go.OpenSpec.ofChange s with cond := some uptoSmall }

/-- 'gatehouselaw03.PagesWrites', WHERE WHAT IT READS IS OF BULK AT MOST 1048576: true; the input reads as it did. -/
def pagesWritesUptoRow : OpenClaim := { program := "ytdaopbkggmlopaa", sum := "2b0a97aa1ed90a567b2b26506bea9ae7fa94aa0dbd55a93a3945917a02e35724", func := "gatehouse/gatehouselaw03.PagesWrites", spec := "pagesWrites", inPlace := ["internal/abi.NoEscape", "internal/bytealg.MakeNoZero"], unfollowed := true, recurses := true, apart := false, narrowed := true }
def PagesWritesUptoSaid : Prop := pagesWritesUptoRow.holds Try.pinned (OpenSpec.upto pagesWritesSpec)

/-- 'gatehouselaw03.PagesSizes', WHERE WHAT IT READS IS OF BULK AT MOST 1048576: true; the input reads as it did. -/
def pagesSizesUptoRow : OpenClaim := { program := "ytdaopbkggmlopaa", sum := "2b0a97aa1ed90a567b2b26506bea9ae7fa94aa0dbd55a93a3945917a02e35724", func := "gatehouse/gatehouselaw03.PagesSizes", spec := "pagesSizes", inPlace := ["internal/abi.NoEscape", "internal/bytealg.MakeNoZero"], unfollowed := true, recurses := true, apart := false, narrowed := true }
def PagesSizesUptoSaid : Prop := pagesSizesUptoRow.holds Try.pinned (OpenSpec.upto pagesSizesSpec)

/-- 'gatehouselaw03.PagesPlay', WHERE WHAT IT READS IS OF BULK AT MOST 1048576: true; the input reads as it did. -/
def pagesPlayUptoRow : OpenClaim := { program := "ytdaopbkggmlopaa", sum := "2b0a97aa1ed90a567b2b26506bea9ae7fa94aa0dbd55a93a3945917a02e35724", func := "gatehouse/gatehouselaw03.PagesPlay", spec := "pagesPlay", inPlace := ["internal/abi.NoEscape", "internal/bytealg.MakeNoZero"], unfollowed := true, recurses := true, apart := false, narrowed := true }
def PagesPlayUptoSaid : Prop := pagesPlayUptoRow.holds Try.pinned (OpenSpec.upto pagesPlaySpec)

/-- 'gatehouselaw03.PagesUnlike', WHERE WHAT IT READS IS OF BULK AT MOST 1048576: true; the input reads as it did. -/
def pagesUnlikeUptoRow : OpenClaim := { program := "ytdaopbkggmlopaa", sum := "2b0a97aa1ed90a567b2b26506bea9ae7fa94aa0dbd55a93a3945917a02e35724", func := "gatehouse/gatehouselaw03.PagesUnlike", spec := "pagesUnlike", inPlace := ["internal/abi.NoEscape", "internal/bytealg.MakeNoZero"], unfollowed := true, recurses := true, apart := false, narrowed := true }
def PagesUnlikeUptoSaid : Prop := pagesUnlikeUptoRow.holds Try.pinned (OpenSpec.upto pagesUnlikeSpec)

/-- 'gatehouselaw03.PagesWords', WHERE WHAT IT READS IS OF BULK AT MOST 1048576: true; the input reads as it did. -/
def pagesWordsUptoRow : OpenClaim := { program := "ytdaopbkggmlopaa", sum := "2b0a97aa1ed90a567b2b26506bea9ae7fa94aa0dbd55a93a3945917a02e35724", func := "gatehouse/gatehouselaw03.PagesWords", spec := "pagesWords", inPlace := ["internal/abi.NoEscape", "internal/bytealg.MakeNoZero"], unfollowed := true, recurses := true, apart := false, narrowed := true }
def PagesWordsUptoSaid : Prop := pagesWordsUptoRow.holds Try.pinned (OpenSpec.upto pagesWordsSpec)

end Rows
end Go.Proofs.Ytdaopbkggmlopaa
