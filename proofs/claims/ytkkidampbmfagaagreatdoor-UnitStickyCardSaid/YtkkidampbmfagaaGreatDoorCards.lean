/-
  DERIVED. GIVEN WITH THE SEED: THE CARDS: each row of YtkkidampbmfagaaGreatDoorRows.lean that lists a variable, with what it lists TIED to the program's text (the seventh form; the later family's looks); each row that meets fmt, with fmt's text TOLD by the authors' own Lean function (tested against real Go, not proved from fmt's source: count such statements apart). THE CARD IS WHAT COUNTS. Prove the row's statement (the work); the ties are given (YtkkidampbmfagaaGreatDoorTie.lean); close each card by the builder's one call (the guide's Derived/Test/ToyasCard.lean, 'card_holds'). Laid BY PROGRAM, IN A SANDBOX (cutbox-door.mjs). By AI agents, Wed Nov 11 2026. No macro, syntax, notation, axiom, sorry.
-/
import Derived.Test.YtkkidampbmfagaaGreatDoorRows
import GoSem.ClaimSeven
namespace Go.Proofs.YtkkidampbmfagaaGreatDoor
namespace Rows

/-- THE TIED CARD OF 'vernierlaw17.MetalUnit'. -/
def metalUnitCard : Claim7 := { stood := { row := metalUnitRow, standIns := [], harness := (true, "9dac59381b5eac682780717b7c6a9523f1c887cd86e3ec9e8d57490eab129f7c"), looks := false }, kinds := [], alts := [], laidByText := true, laidKinds := [.data, .data, .data], laidTests := true, laidLooks := .later }
def MetalUnitCardSaid : Prop := Claim7.holds Tryz.pinned (.plain (OpenSpec.ofChange metalUnitSpec)) metalUnitCard

/-- THE TIED CARD OF 'verniertop.WholeMetal'. -/
def wholeMetalCard : Claim7 := { stood := { row := wholeMetalRow, standIns := [], harness := (true, "9dac59381b5eac682780717b7c6a9523f1c887cd86e3ec9e8d57490eab129f7c"), looks := false }, kinds := [], alts := [], laidByText := true, laidKinds := [.data, .data], laidTests := true, laidLooks := .later }
def WholeMetalCardSaid : Prop := Claim7.holds Tryz.pinned (.plain (OpenSpec.ofChange wholeMetalSpec)) wholeMetalCard

/-- THE TIED CARD OF 'vernierlaw19.UnitLayers'. -/
def unitLayersCard : Claim7 := { stood := { row := unitLayersRow, standIns := [], harness := (true, "9dac59381b5eac682780717b7c6a9523f1c887cd86e3ec9e8d57490eab129f7c"), looks := false }, kinds := [], alts := [], laidByText := true, laidKinds := [.data, .data, .data], laidTests := true, laidLooks := .later }
def UnitLayersCardSaid : Prop := Claim7.holds Tryz.pinned (.plain (OpenSpec.ofChange unitLayersSpec)) unitLayersCard

/-- THE TIED CARD OF 'vernierlaw19.UnitTraps'. -/
def unitTrapsCard : Claim7 := { stood := { row := unitTrapsRow, standIns := [], harness := (true, "9dac59381b5eac682780717b7c6a9523f1c887cd86e3ec9e8d57490eab129f7c"), looks := false }, kinds := [], alts := [], laidByText := true, laidKinds := [.data, .data, .data], laidTests := true, laidLooks := .later }
def UnitTrapsCardSaid : Prop := Claim7.holds Tryz.pinned (.plain (OpenSpec.ofChange unitTrapsSpec)) unitTrapsCard

/-- THE TIED CARD OF 'vernierlaw19.UnitModes'. -/
def unitModesCard : Claim7 := { stood := { row := unitModesRow, standIns := [], harness := (true, "9dac59381b5eac682780717b7c6a9523f1c887cd86e3ec9e8d57490eab129f7c"), looks := false }, kinds := [], alts := [], laidByText := true, laidKinds := [.data, .data, .data], laidTests := true, laidLooks := .later }
def UnitModesCardSaid : Prop := Claim7.holds Tryz.pinned (.plain (OpenSpec.ofChange unitModesSpec)) unitModesCard

/-- THE TIED CARD OF 'vernierlaw19.UnitMachine'. -/
def unitMachineCard : Claim7 := { stood := { row := unitMachineRow, standIns := [], harness := (true, "9dac59381b5eac682780717b7c6a9523f1c887cd86e3ec9e8d57490eab129f7c"), looks := false }, kinds := [], alts := [], laidByText := true, laidKinds := [.data, .data, .data], laidTests := true, laidLooks := .later }
def UnitMachineCardSaid : Prop := Claim7.holds Tryz.pinned (.plain (OpenSpec.ofChange unitMachineSpec)) unitMachineCard

/-- THE TIED CARD OF 'vernierlaw19.UnitRuns'. -/
def unitRunsCard : Claim7 := { stood := { row := unitRunsRow, standIns := [], harness := (true, "9dac59381b5eac682780717b7c6a9523f1c887cd86e3ec9e8d57490eab129f7c"), looks := false }, kinds := [], alts := [], laidByText := true, laidKinds := [.data, .data, .data], laidTests := true, laidLooks := .later }
def UnitRunsCardSaid : Prop := Claim7.holds Tryz.pinned (.plain (OpenSpec.ofChange unitRunsSpec)) unitRunsCard

/-- THE TIED CARD OF 'vernierlaw19.UnitSticky'. -/
def unitStickyCard : Claim7 := { stood := { row := unitStickyRow, standIns := [], harness := (true, "9dac59381b5eac682780717b7c6a9523f1c887cd86e3ec9e8d57490eab129f7c"), looks := false }, kinds := [], alts := [], laidByText := true, laidKinds := [.data, .data, .data], laidTests := true, laidLooks := .later }
def UnitStickyCardSaid : Prop := Claim7.holds Tryz.pinned (.plain (OpenSpec.ofChange unitStickySpec)) unitStickyCard

/-- THE TIED CARD OF 'vernierlaw19.UnitPlays'. -/
def unitPlaysCard : Claim7 := { stood := { row := unitPlaysRow, standIns := [], harness := (true, "9dac59381b5eac682780717b7c6a9523f1c887cd86e3ec9e8d57490eab129f7c"), looks := false }, kinds := [], alts := [], laidByText := true, laidKinds := [.data, .data, .data], laidTests := true, laidLooks := .later }
def UnitPlaysCardSaid : Prop := Claim7.holds Tryz.pinned (.plain (OpenSpec.ofChange unitPlaysSpec)) unitPlaysCard

/-- THE SECOND FORM's CARD OF 'vernierlaw17.MetalUnit'. -/
def metalUnitUptoCard : Claim7 := { stood := { row := metalUnitUptoRow, standIns := [], harness := (true, "9dac59381b5eac682780717b7c6a9523f1c887cd86e3ec9e8d57490eab129f7c"), looks := false }, kinds := [], alts := [], laidByText := true, laidKinds := [.data, .data, .data], laidTests := true, laidLooks := .later }
def MetalUnitUptoCardSaid : Prop := Claim7.holds Tryz.pinned (.plain (OpenSpec.upto metalUnitSpec)) metalUnitUptoCard

/-- THE SECOND FORM's CARD OF 'verniertop.WholeMetal'. -/
def wholeMetalUptoCard : Claim7 := { stood := { row := wholeMetalUptoRow, standIns := [], harness := (true, "9dac59381b5eac682780717b7c6a9523f1c887cd86e3ec9e8d57490eab129f7c"), looks := false }, kinds := [], alts := [], laidByText := true, laidKinds := [.data, .data], laidTests := true, laidLooks := .later }
def WholeMetalUptoCardSaid : Prop := Claim7.holds Tryz.pinned (.plain (OpenSpec.upto wholeMetalSpec)) wholeMetalUptoCard

/-- THE SECOND FORM's CARD OF 'vernierlaw19.UnitLayers'. -/
def unitLayersUptoCard : Claim7 := { stood := { row := unitLayersUptoRow, standIns := [], harness := (true, "9dac59381b5eac682780717b7c6a9523f1c887cd86e3ec9e8d57490eab129f7c"), looks := false }, kinds := [], alts := [], laidByText := true, laidKinds := [.data, .data, .data], laidTests := true, laidLooks := .later }
def UnitLayersUptoCardSaid : Prop := Claim7.holds Tryz.pinned (.plain (OpenSpec.upto unitLayersSpec)) unitLayersUptoCard

/-- THE SECOND FORM's CARD OF 'vernierlaw19.UnitTraps'. -/
def unitTrapsUptoCard : Claim7 := { stood := { row := unitTrapsUptoRow, standIns := [], harness := (true, "9dac59381b5eac682780717b7c6a9523f1c887cd86e3ec9e8d57490eab129f7c"), looks := false }, kinds := [], alts := [], laidByText := true, laidKinds := [.data, .data, .data], laidTests := true, laidLooks := .later }
def UnitTrapsUptoCardSaid : Prop := Claim7.holds Tryz.pinned (.plain (OpenSpec.upto unitTrapsSpec)) unitTrapsUptoCard

/-- THE SECOND FORM's CARD OF 'vernierlaw19.UnitModes'. -/
def unitModesUptoCard : Claim7 := { stood := { row := unitModesUptoRow, standIns := [], harness := (true, "9dac59381b5eac682780717b7c6a9523f1c887cd86e3ec9e8d57490eab129f7c"), looks := false }, kinds := [], alts := [], laidByText := true, laidKinds := [.data, .data, .data], laidTests := true, laidLooks := .later }
def UnitModesUptoCardSaid : Prop := Claim7.holds Tryz.pinned (.plain (OpenSpec.upto unitModesSpec)) unitModesUptoCard

/-- THE SECOND FORM's CARD OF 'vernierlaw19.UnitMachine'. -/
def unitMachineUptoCard : Claim7 := { stood := { row := unitMachineUptoRow, standIns := [], harness := (true, "9dac59381b5eac682780717b7c6a9523f1c887cd86e3ec9e8d57490eab129f7c"), looks := false }, kinds := [], alts := [], laidByText := true, laidKinds := [.data, .data, .data], laidTests := true, laidLooks := .later }
def UnitMachineUptoCardSaid : Prop := Claim7.holds Tryz.pinned (.plain (OpenSpec.upto unitMachineSpec)) unitMachineUptoCard

/-- THE SECOND FORM's CARD OF 'vernierlaw19.UnitRuns'. -/
def unitRunsUptoCard : Claim7 := { stood := { row := unitRunsUptoRow, standIns := [], harness := (true, "9dac59381b5eac682780717b7c6a9523f1c887cd86e3ec9e8d57490eab129f7c"), looks := false }, kinds := [], alts := [], laidByText := true, laidKinds := [.data, .data, .data], laidTests := true, laidLooks := .later }
def UnitRunsUptoCardSaid : Prop := Claim7.holds Tryz.pinned (.plain (OpenSpec.upto unitRunsSpec)) unitRunsUptoCard

/-- THE SECOND FORM's CARD OF 'vernierlaw19.UnitSticky'. -/
def unitStickyUptoCard : Claim7 := { stood := { row := unitStickyUptoRow, standIns := [], harness := (true, "9dac59381b5eac682780717b7c6a9523f1c887cd86e3ec9e8d57490eab129f7c"), looks := false }, kinds := [], alts := [], laidByText := true, laidKinds := [.data, .data, .data], laidTests := true, laidLooks := .later }
def UnitStickyUptoCardSaid : Prop := Claim7.holds Tryz.pinned (.plain (OpenSpec.upto unitStickySpec)) unitStickyUptoCard

/-- THE SECOND FORM's CARD OF 'vernierlaw19.UnitPlays'. -/
def unitPlaysUptoCard : Claim7 := { stood := { row := unitPlaysUptoRow, standIns := [], harness := (true, "9dac59381b5eac682780717b7c6a9523f1c887cd86e3ec9e8d57490eab129f7c"), looks := false }, kinds := [], alts := [], laidByText := true, laidKinds := [.data, .data, .data], laidTests := true, laidLooks := .later }
def UnitPlaysUptoCardSaid : Prop := Claim7.holds Tryz.pinned (.plain (OpenSpec.upto unitPlaysSpec)) unitPlaysUptoCard
end Rows
end Go.Proofs.YtkkidampbmfagaaGreatDoor
