/-
  DERIVED. GIVEN WITH THE SEED: THE CARDS: each row of YtnmmpgeojimgoaaDoorRows.lean that lists a variable, with what it lists TIED to the program's text (the seventh form; the later family's looks); each row that meets fmt, with fmt's text TOLD by the authors' own Lean function (tested against real Go, not proved from fmt's source: count such statements apart). THE CARD IS WHAT COUNTS. Prove the row's statement (the work); the ties are given (YtnmmpgeojimgoaaDoorTie.lean); close each card by the builder's one call (the guide's Derived/Test/ToyasCard.lean, 'card_holds'). Laid BY PROGRAM, IN A SANDBOX (cutbox-door.mjs). By AI agents, Wed Nov 11 2026. No macro, syntax, notation, axiom, sorry.
-/
import Derived.Test.YtnmmpgeojimgoaaDoorRows
import GoSem.ClaimSeven
namespace Go.Proofs.YtnmmpgeojimgoaaDoor
namespace Rows

/-- THE TIED CARD OF 'gatehouselaw02.IsaCodes'. -/
def isaCodesCard : Claim7 := { stood := { row := isaCodesRow, standIns := [], harness := (true, "76cc94392f6776298deb46539f74d83e8f2fbe1118e99c806e9905466502fcee"), looks := true }, kinds := [], alts := [], laidByText := true, laidKinds := [.data, .data, .data, .data, .sentinel, .sentinel, .listed, .data, .pinned], laidTests := true, laidLooks := .later }
def IsaCodesCardSaid : Prop := Claim7.holds Tryd.pinned (.plain (OpenSpec.ofChange isaCodesSpec)) isaCodesCard

/-- THE TIED CARD OF 'gatehouselaw02.IsaParses'. -/
def isaParsesCard : Claim7 := { stood := { row := isaParsesRow, standIns := [], harness := (true, "76cc94392f6776298deb46539f74d83e8f2fbe1118e99c806e9905466502fcee"), looks := true }, kinds := [], alts := [], laidByText := true, laidKinds := [.data, .data, .data, .data, .sentinel, .sentinel, .listed, .data, .pinned], laidTests := true, laidLooks := .later }
def IsaParsesCardSaid : Prop := Claim7.holds Tryd.pinned (.plain (OpenSpec.ofChange isaParsesSpec)) isaParsesCard

/-- THE TIED CARD OF 'gatehouselaw02.IsaBuilds'. -/
def isaBuildsCard : Claim7 := { stood := { row := isaBuildsRow, standIns := [], harness := (true, "76cc94392f6776298deb46539f74d83e8f2fbe1118e99c806e9905466502fcee"), looks := true }, kinds := [], alts := [], laidByText := true, laidKinds := [.data, .data, .data, .data, .sentinel, .sentinel, .listed, .data, .pinned], laidTests := true, laidLooks := .later }
def IsaBuildsCardSaid : Prop := Claim7.holds Tryd.pinned (.plain (OpenSpec.ofChange isaBuildsSpec)) isaBuildsCard

/-- THE TIED CARD OF 'gatehouselaw02.IsaDecodes'. -/
def isaDecodesCard : Claim7 := { stood := { row := isaDecodesRow, standIns := [], harness := (true, "76cc94392f6776298deb46539f74d83e8f2fbe1118e99c806e9905466502fcee"), looks := true }, kinds := [], alts := [], laidByText := true, laidKinds := [.data, .data, .data, .data, .sentinel, .sentinel, .listed, .data, .pinned], laidTests := true, laidLooks := .later }
def IsaDecodesCardSaid : Prop := Claim7.holds Tryd.pinned (.plain (OpenSpec.ofChange isaDecodesSpec)) isaDecodesCard

/-- THE TIED CARD OF 'gatehouselaw02.IsaBack'. -/
def isaBackCard : Claim7 := { stood := { row := isaBackRow, standIns := [], harness := (true, "76cc94392f6776298deb46539f74d83e8f2fbe1118e99c806e9905466502fcee"), looks := true }, kinds := [], alts := [], laidByText := true, laidKinds := [.data, .data, .data, .data, .sentinel, .sentinel, .listed, .data, .pinned], laidTests := true, laidLooks := .later }
def IsaBackCardSaid : Prop := Claim7.holds Tryd.pinned (.plain (OpenSpec.ofChange isaBackSpec)) isaBackCard

/-- THE TIED CARD OF 'gatehouselaw02.IsaPlaces'. -/
def isaPlacesCard : Claim7 := { stood := { row := isaPlacesRow, standIns := [], harness := (true, "76cc94392f6776298deb46539f74d83e8f2fbe1118e99c806e9905466502fcee"), looks := true }, kinds := [], alts := [], laidByText := true, laidKinds := [.data, .data, .data, .data, .sentinel, .sentinel, .listed, .data, .pinned], laidTests := true, laidLooks := .later }
def IsaPlacesCardSaid : Prop := Claim7.holds Tryd.pinned (.plain (OpenSpec.ofChange isaPlacesSpec)) isaPlacesCard

/-- THE TIED CARD OF 'gatehouselaw02.IsaLists'. -/
def isaListsCard : Claim7 := { stood := { row := isaListsRow, standIns := [], harness := (true, "76cc94392f6776298deb46539f74d83e8f2fbe1118e99c806e9905466502fcee"), looks := true }, kinds := [], alts := [], laidByText := true, laidKinds := [.data, .data, .data, .data, .sentinel, .sentinel, .listed, .data, .pinned], laidTests := true, laidLooks := .later }
def IsaListsCardSaid : Prop := Claim7.holds Tryd.pinned (.plain (OpenSpec.ofChange isaListsSpec)) isaListsCard

/-- THE SECOND FORM's CARD OF 'gatehouselaw02.IsaCodes'. -/
def isaCodesUptoCard : Claim7 := { stood := { row := isaCodesUptoRow, standIns := [], harness := (true, "76cc94392f6776298deb46539f74d83e8f2fbe1118e99c806e9905466502fcee"), looks := true }, kinds := [], alts := [], laidByText := true, laidKinds := [.data, .data, .data, .data, .sentinel, .sentinel, .listed, .data, .pinned], laidTests := true, laidLooks := .later }
def IsaCodesUptoCardSaid : Prop := Claim7.holds Tryd.pinned (.plain (OpenSpec.upto isaCodesSpec)) isaCodesUptoCard

/-- THE SECOND FORM's CARD OF 'gatehouselaw02.IsaParses'. -/
def isaParsesUptoCard : Claim7 := { stood := { row := isaParsesUptoRow, standIns := [], harness := (true, "76cc94392f6776298deb46539f74d83e8f2fbe1118e99c806e9905466502fcee"), looks := true }, kinds := [], alts := [], laidByText := true, laidKinds := [.data, .data, .data, .data, .sentinel, .sentinel, .listed, .data, .pinned], laidTests := true, laidLooks := .later }
def IsaParsesUptoCardSaid : Prop := Claim7.holds Tryd.pinned (.plain (OpenSpec.upto isaParsesSpec)) isaParsesUptoCard

/-- THE SECOND FORM's CARD OF 'gatehouselaw02.IsaBuilds'. -/
def isaBuildsUptoCard : Claim7 := { stood := { row := isaBuildsUptoRow, standIns := [], harness := (true, "76cc94392f6776298deb46539f74d83e8f2fbe1118e99c806e9905466502fcee"), looks := true }, kinds := [], alts := [], laidByText := true, laidKinds := [.data, .data, .data, .data, .sentinel, .sentinel, .listed, .data, .pinned], laidTests := true, laidLooks := .later }
def IsaBuildsUptoCardSaid : Prop := Claim7.holds Tryd.pinned (.plain (OpenSpec.upto isaBuildsSpec)) isaBuildsUptoCard

/-- THE SECOND FORM's CARD OF 'gatehouselaw02.IsaDecodes'. -/
def isaDecodesUptoCard : Claim7 := { stood := { row := isaDecodesUptoRow, standIns := [], harness := (true, "76cc94392f6776298deb46539f74d83e8f2fbe1118e99c806e9905466502fcee"), looks := true }, kinds := [], alts := [], laidByText := true, laidKinds := [.data, .data, .data, .data, .sentinel, .sentinel, .listed, .data, .pinned], laidTests := true, laidLooks := .later }
def IsaDecodesUptoCardSaid : Prop := Claim7.holds Tryd.pinned (.plain (OpenSpec.upto isaDecodesSpec)) isaDecodesUptoCard

/-- THE SECOND FORM's CARD OF 'gatehouselaw02.IsaBack'. -/
def isaBackUptoCard : Claim7 := { stood := { row := isaBackUptoRow, standIns := [], harness := (true, "76cc94392f6776298deb46539f74d83e8f2fbe1118e99c806e9905466502fcee"), looks := true }, kinds := [], alts := [], laidByText := true, laidKinds := [.data, .data, .data, .data, .sentinel, .sentinel, .listed, .data, .pinned], laidTests := true, laidLooks := .later }
def IsaBackUptoCardSaid : Prop := Claim7.holds Tryd.pinned (.plain (OpenSpec.upto isaBackSpec)) isaBackUptoCard

/-- THE SECOND FORM's CARD OF 'gatehouselaw02.IsaPlaces'. -/
def isaPlacesUptoCard : Claim7 := { stood := { row := isaPlacesUptoRow, standIns := [], harness := (true, "76cc94392f6776298deb46539f74d83e8f2fbe1118e99c806e9905466502fcee"), looks := true }, kinds := [], alts := [], laidByText := true, laidKinds := [.data, .data, .data, .data, .sentinel, .sentinel, .listed, .data, .pinned], laidTests := true, laidLooks := .later }
def IsaPlacesUptoCardSaid : Prop := Claim7.holds Tryd.pinned (.plain (OpenSpec.upto isaPlacesSpec)) isaPlacesUptoCard

/-- THE SECOND FORM's CARD OF 'gatehouselaw02.IsaLists'. -/
def isaListsUptoCard : Claim7 := { stood := { row := isaListsUptoRow, standIns := [], harness := (true, "76cc94392f6776298deb46539f74d83e8f2fbe1118e99c806e9905466502fcee"), looks := true }, kinds := [], alts := [], laidByText := true, laidKinds := [.data, .data, .data, .data, .sentinel, .sentinel, .listed, .data, .pinned], laidTests := true, laidLooks := .later }
def IsaListsUptoCardSaid : Prop := Claim7.holds Tryd.pinned (.plain (OpenSpec.upto isaListsSpec)) isaListsUptoCard
end Rows
end Go.Proofs.YtnmmpgeojimgoaaDoor
