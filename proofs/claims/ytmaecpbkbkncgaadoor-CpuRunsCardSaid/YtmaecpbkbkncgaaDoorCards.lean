/-
  DERIVED. GIVEN WITH THE SEED: THE CARDS: each row of YtmaecpbkbkncgaaDoorRows.lean that lists a variable, with what it lists TIED to the program's text (the seventh form; the later family's looks); each row that meets fmt, with fmt's text TOLD by the authors' own Lean function (tested against real Go, not proved from fmt's source: count such statements apart). THE CARD IS WHAT COUNTS. Prove the row's statement (the work); the ties are given (YtmaecpbkbkncgaaDoorTie.lean); close each card by the builder's one call (the guide's Derived/Test/ToyasCard.lean, 'card_holds'). Laid BY PROGRAM, IN A SANDBOX (cutbox-door.mjs). By AI agents, Wed Nov 11 2026. No macro, syntax, notation, axiom, sorry.
-/
import Derived.Test.YtmaecpbkbkncgaaDoorRows
import GoSem.ClaimSeven
namespace Go.Proofs.YtmaecpbkbkncgaaDoor
namespace Rows

/-- THE TIED CARD OF 'gatehouselaw06.CpuSteps'. -/
def cpuStepsCard : Claim7 := { stood := { row := cpuStepsRow, standIns := [], harness := (true, "87d77506019ddab663fb7e0f2e052f1881164e07803105f65975d27eb9532bb2"), looks := false }, kinds := [], alts := [], laidByText := true, laidKinds := [.listed, .data], laidTests := true, laidLooks := .later }
def CpuStepsCardSaid : Prop := Claim7.holds Tryd.pinned (.plain (OpenSpec.ofChange cpuStepsSpec)) cpuStepsCard

/-- THE TIED CARD OF 'gatehouselaw06.CpuRuns'. -/
def cpuRunsCard : Claim7 := { stood := { row := cpuRunsRow, standIns := [], harness := (true, "87d77506019ddab663fb7e0f2e052f1881164e07803105f65975d27eb9532bb2"), looks := false }, kinds := [], alts := [], laidByText := true, laidKinds := [.listed, .data], laidTests := true, laidLooks := .later }
def CpuRunsCardSaid : Prop := Claim7.holds Tryd.pinned (.plain (OpenSpec.ofChange cpuRunsSpec)) cpuRunsCard

/-- THE TIED CARD OF 'gatehouselaw06.CpuReckons'. -/
def cpuReckonsCard : Claim7 := { stood := { row := cpuReckonsRow, standIns := [], harness := (true, "87d77506019ddab663fb7e0f2e052f1881164e07803105f65975d27eb9532bb2"), looks := false }, kinds := [], alts := [], laidByText := true, laidKinds := [.listed, .data], laidTests := true, laidLooks := .later }
def CpuReckonsCardSaid : Prop := Claim7.holds Tryd.pinned (.plain (OpenSpec.ofChange cpuReckonsSpec)) cpuReckonsCard

/-- THE TIED CARD OF 'gatehouselaw06.CpuLittle'. -/
def cpuLittleCard : Claim7 := { stood := { row := cpuLittleRow, standIns := [], harness := (true, "87d77506019ddab663fb7e0f2e052f1881164e07803105f65975d27eb9532bb2"), looks := false }, kinds := [], alts := [], laidByText := true, laidKinds := [.listed, .data], laidTests := true, laidLooks := .later }
def CpuLittleCardSaid : Prop := Claim7.holds Tryd.pinned (.plain (OpenSpec.ofChange cpuLittleSpec)) cpuLittleCard

/-- THE TIED CARD OF 'gatehouselaw06.CpuParts'. -/
def cpuPartsCard : Claim7 := { stood := { row := cpuPartsRow, standIns := [], harness := (true, "87d77506019ddab663fb7e0f2e052f1881164e07803105f65975d27eb9532bb2"), looks := false }, kinds := [], alts := [], laidByText := true, laidKinds := [.listed, .data], laidTests := true, laidLooks := .later }
def CpuPartsCardSaid : Prop := Claim7.holds Tryd.pinned (.plain (OpenSpec.ofChange cpuPartsSpec)) cpuPartsCard

/-- THE TIED CARD OF 'gatehouselaw06.CpuMoves'. -/
def cpuMovesCard : Claim7 := { stood := { row := cpuMovesRow, standIns := [], harness := (true, "87d77506019ddab663fb7e0f2e052f1881164e07803105f65975d27eb9532bb2"), looks := false }, kinds := [], alts := [], laidByText := true, laidKinds := [.listed, .data], laidTests := true, laidLooks := .later }
def CpuMovesCardSaid : Prop := Claim7.holds Tryd.pinned (.plain (OpenSpec.ofChange cpuMovesSpec)) cpuMovesCard

/-- THE TIED CARD OF 'gatehouselaw06.CpuWays'. -/
def cpuWaysCard : Claim7 := { stood := { row := cpuWaysRow, standIns := [], harness := (true, "87d77506019ddab663fb7e0f2e052f1881164e07803105f65975d27eb9532bb2"), looks := false }, kinds := [], alts := [], laidByText := true, laidKinds := [.listed, .data], laidTests := true, laidLooks := .later }
def CpuWaysCardSaid : Prop := Claim7.holds Tryd.pinned (.plain (OpenSpec.ofChange cpuWaysSpec)) cpuWaysCard

/-- THE SECOND FORM's CARD OF 'gatehouselaw06.CpuSteps'. -/
def cpuStepsUptoCard : Claim7 := { stood := { row := cpuStepsUptoRow, standIns := [], harness := (true, "87d77506019ddab663fb7e0f2e052f1881164e07803105f65975d27eb9532bb2"), looks := false }, kinds := [], alts := [], laidByText := true, laidKinds := [.listed, .data], laidTests := true, laidLooks := .later }
def CpuStepsUptoCardSaid : Prop := Claim7.holds Tryd.pinned (.plain (OpenSpec.upto cpuStepsSpec)) cpuStepsUptoCard

/-- THE SECOND FORM's CARD OF 'gatehouselaw06.CpuRuns'. -/
def cpuRunsUptoCard : Claim7 := { stood := { row := cpuRunsUptoRow, standIns := [], harness := (true, "87d77506019ddab663fb7e0f2e052f1881164e07803105f65975d27eb9532bb2"), looks := false }, kinds := [], alts := [], laidByText := true, laidKinds := [.listed, .data], laidTests := true, laidLooks := .later }
def CpuRunsUptoCardSaid : Prop := Claim7.holds Tryd.pinned (.plain (OpenSpec.upto cpuRunsSpec)) cpuRunsUptoCard

/-- THE SECOND FORM's CARD OF 'gatehouselaw06.CpuReckons'. -/
def cpuReckonsUptoCard : Claim7 := { stood := { row := cpuReckonsUptoRow, standIns := [], harness := (true, "87d77506019ddab663fb7e0f2e052f1881164e07803105f65975d27eb9532bb2"), looks := false }, kinds := [], alts := [], laidByText := true, laidKinds := [.listed, .data], laidTests := true, laidLooks := .later }
def CpuReckonsUptoCardSaid : Prop := Claim7.holds Tryd.pinned (.plain (OpenSpec.upto cpuReckonsSpec)) cpuReckonsUptoCard

/-- THE SECOND FORM's CARD OF 'gatehouselaw06.CpuLittle'. -/
def cpuLittleUptoCard : Claim7 := { stood := { row := cpuLittleUptoRow, standIns := [], harness := (true, "87d77506019ddab663fb7e0f2e052f1881164e07803105f65975d27eb9532bb2"), looks := false }, kinds := [], alts := [], laidByText := true, laidKinds := [.listed, .data], laidTests := true, laidLooks := .later }
def CpuLittleUptoCardSaid : Prop := Claim7.holds Tryd.pinned (.plain (OpenSpec.upto cpuLittleSpec)) cpuLittleUptoCard

/-- THE SECOND FORM's CARD OF 'gatehouselaw06.CpuParts'. -/
def cpuPartsUptoCard : Claim7 := { stood := { row := cpuPartsUptoRow, standIns := [], harness := (true, "87d77506019ddab663fb7e0f2e052f1881164e07803105f65975d27eb9532bb2"), looks := false }, kinds := [], alts := [], laidByText := true, laidKinds := [.listed, .data], laidTests := true, laidLooks := .later }
def CpuPartsUptoCardSaid : Prop := Claim7.holds Tryd.pinned (.plain (OpenSpec.upto cpuPartsSpec)) cpuPartsUptoCard

/-- THE SECOND FORM's CARD OF 'gatehouselaw06.CpuMoves'. -/
def cpuMovesUptoCard : Claim7 := { stood := { row := cpuMovesUptoRow, standIns := [], harness := (true, "87d77506019ddab663fb7e0f2e052f1881164e07803105f65975d27eb9532bb2"), looks := false }, kinds := [], alts := [], laidByText := true, laidKinds := [.listed, .data], laidTests := true, laidLooks := .later }
def CpuMovesUptoCardSaid : Prop := Claim7.holds Tryd.pinned (.plain (OpenSpec.upto cpuMovesSpec)) cpuMovesUptoCard

/-- THE SECOND FORM's CARD OF 'gatehouselaw06.CpuWays'. -/
def cpuWaysUptoCard : Claim7 := { stood := { row := cpuWaysUptoRow, standIns := [], harness := (true, "87d77506019ddab663fb7e0f2e052f1881164e07803105f65975d27eb9532bb2"), looks := false }, kinds := [], alts := [], laidByText := true, laidKinds := [.listed, .data], laidTests := true, laidLooks := .later }
def CpuWaysUptoCardSaid : Prop := Claim7.holds Tryd.pinned (.plain (OpenSpec.upto cpuWaysSpec)) cpuWaysUptoCard
end Rows
end Go.Proofs.YtmaecpbkbkncgaaDoor
