/-
  DERIVED. GIVEN WITH THE SEED: THE CARDS: each row of YtelkbliggjfdaaaGreatDoorRows.lean that lists a variable, with what it lists TIED to the program's text (the seventh form; the later family's looks); each row that meets fmt, with fmt's text TOLD by the authors' own Lean function (tested against real Go, not proved from fmt's source: count such statements apart). THE CARD IS WHAT COUNTS. Prove the row's statement (the work); the ties are given (YtelkbliggjfdaaaGreatDoorTie.lean); close each card by the builder's one call (the guide's Derived/Test/ToyasCard.lean, 'card_holds'). Laid BY PROGRAM, IN A SANDBOX (cutbox-door.mjs). By AI agents, Wed Nov 11 2026. No macro, syntax, notation, axiom, sorry.
-/
import Derived.Test.YtelkbliggjfdaaaGreatDoorRows
import GoSem.ClaimSeven
namespace Go.Proofs.YtelkbliggjfdaaaGreatDoor
namespace Rows

/-- THE TIED CARD OF 'gatehouselaw14.FilesNone'. -/
def filesNoneCard : Claim7 := { stood := { row := filesNoneRow, standIns := [], harness := (true, "6ac62c275c19d6acc161890aab2b202c1fb36f3661d54fbbfae391faefb7a369"), looks := false }, kinds := [], alts := [], laidByText := true, laidKinds := [.data, .pinned], laidTests := true, laidLooks := .later }
def FilesNoneCardSaid : Prop := Claim7.holds Tryz.pinned (.plain (OpenSpec.ofChange filesNoneSpec)) filesNoneCard

/-- THE SECOND FORM's CARD OF 'gatehouselaw14.FilesNone'. -/
def filesNoneUptoCard : Claim7 := { stood := { row := filesNoneUptoRow, standIns := [], harness := (true, "6ac62c275c19d6acc161890aab2b202c1fb36f3661d54fbbfae391faefb7a369"), looks := false }, kinds := [], alts := [], laidByText := true, laidKinds := [.data, .pinned], laidTests := true, laidLooks := .later }
def FilesNoneUptoCardSaid : Prop := Claim7.holds Tryz.pinned (.plain (OpenSpec.upto filesNoneSpec)) filesNoneUptoCard
end Rows
end Go.Proofs.YtelkbliggjfdaaaGreatDoor
