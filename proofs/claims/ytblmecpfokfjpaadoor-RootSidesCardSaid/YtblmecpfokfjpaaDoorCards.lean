/-
  DERIVED. GIVEN WITH THE SEED: THE CARDS: each row of YtblmecpfokfjpaaDoorRows.lean that lists a variable, with what it lists TIED to the program's text (the seventh form; the later family's looks); each row that meets fmt, with fmt's text TOLD by the authors' own Lean function (tested against real Go, not proved from fmt's source: count such statements apart). THE CARD IS WHAT COUNTS. Prove the row's statement (the work); the ties are given (YtblmecpfokfjpaaDoorTie.lean); close each card by the builder's one call (the guide's Derived/Test/ToyasCard.lean, 'card_holds'). Laid BY PROGRAM, IN A SANDBOX (cutbox-door.mjs). By AI agents, Wed Nov 11 2026. No macro, syntax, notation, axiom, sorry.
-/
import Derived.Test.YtblmecpfokfjpaaDoorRows
import GoSem.ClaimSeven
namespace Go.Proofs.YtblmecpfokfjpaaDoor
namespace Rows

/-- THE TIED CARD OF 'vernierlaw13.OrderMachine'. -/
def orderMachineCard : Claim7 := { stood := { row := orderMachineRow, standIns := [], harness := (true, "64317550efd06841699c483c22f0224ab2b3aa443be53c0a8a6f59bfca748ef5"), looks := false }, kinds := [], alts := [], laidByText := true, laidKinds := [.data], laidTests := true, laidLooks := .later }
def OrderMachineCardSaid : Prop := Claim7.holds Tryd.pinned (.plain (OpenSpec.ofChange orderMachineSpec)) orderMachineCard

/-- THE TIED CARD OF 'vernierlaw06.AddsubMachine'. -/
def addsubMachineCard : Claim7 := { stood := { row := addsubMachineRow, standIns := [], harness := (true, "64317550efd06841699c483c22f0224ab2b3aa443be53c0a8a6f59bfca748ef5"), looks := false }, kinds := [], alts := [], laidByText := true, laidKinds := [.data, .data], laidTests := true, laidLooks := .later }
def AddsubMachineCardSaid : Prop := Claim7.holds Tryd.pinned (.plain (OpenSpec.ofChange addsubMachineSpec)) addsubMachineCard

/-- THE TIED CARD OF 'vernierlaw13.OrderPowers'. -/
def orderPowersCard : Claim7 := { stood := { row := orderPowersRow, standIns := [], harness := (true, "64317550efd06841699c483c22f0224ab2b3aa443be53c0a8a6f59bfca748ef5"), looks := false }, kinds := [], alts := [], laidByText := true, laidKinds := [.data, .data], laidTests := true, laidLooks := .later }
def OrderPowersCardSaid : Prop := Claim7.holds Tryd.pinned (.plain (OpenSpec.ofChange orderPowersSpec)) orderPowersCard

/-- THE TIED CARD OF 'vernierlaw10.RootRises'. -/
def rootRisesCard : Claim7 := { stood := { row := rootRisesRow, standIns := [], harness := (true, "64317550efd06841699c483c22f0224ab2b3aa443be53c0a8a6f59bfca748ef5"), looks := false }, kinds := [], alts := [], laidByText := true, laidKinds := [.data, .data], laidTests := true, laidLooks := .later }
def RootRisesCardSaid : Prop := Claim7.holds Tryd.pinned (.plain (OpenSpec.ofChange rootRisesSpec)) rootRisesCard

/-- THE TIED CARD OF 'vernierlaw10.RootBack'. -/
def rootBackCard : Claim7 := { stood := { row := rootBackRow, standIns := [], harness := (true, "64317550efd06841699c483c22f0224ab2b3aa443be53c0a8a6f59bfca748ef5"), looks := false }, kinds := [], alts := [], laidByText := true, laidKinds := [.data, .data], laidTests := true, laidLooks := .later }
def RootBackCardSaid : Prop := Claim7.holds Tryd.pinned (.plain (OpenSpec.ofChange rootBackSpec)) rootBackCard

/-- THE TIED CARD OF 'vernierlaw10.RootSquares'. -/
def rootSquaresCard : Claim7 := { stood := { row := rootSquaresRow, standIns := [], harness := (true, "64317550efd06841699c483c22f0224ab2b3aa443be53c0a8a6f59bfca748ef5"), looks := false }, kinds := [], alts := [], laidByText := true, laidKinds := [.data, .data], laidTests := true, laidLooks := .later }
def RootSquaresCardSaid : Prop := Claim7.holds Tryd.pinned (.plain (OpenSpec.ofChange rootSquaresSpec)) rootSquaresCard

/-- THE TIED CARD OF 'vernierlaw10.RootRecipSquares'. -/
def rootRecipSquaresCard : Claim7 := { stood := { row := rootRecipSquaresRow, standIns := [], harness := (true, "64317550efd06841699c483c22f0224ab2b3aa443be53c0a8a6f59bfca748ef5"), looks := false }, kinds := [], alts := [], laidByText := true, laidKinds := [.data, .data], laidTests := true, laidLooks := .later }
def RootRecipSquaresCardSaid : Prop := Claim7.holds Tryd.pinned (.plain (OpenSpec.ofChange rootRecipSquaresSpec)) rootRecipSquaresCard

/-- THE TIED CARD OF 'vernierlaw10.RootSides'. -/
def rootSidesCard : Claim7 := { stood := { row := rootSidesRow, standIns := [], harness := (true, "64317550efd06841699c483c22f0224ab2b3aa443be53c0a8a6f59bfca748ef5"), looks := false }, kinds := [], alts := [], laidByText := true, laidKinds := [.data, .data], laidTests := true, laidLooks := .later }
def RootSidesCardSaid : Prop := Claim7.holds Tryd.pinned (.plain (OpenSpec.ofChange rootSidesSpec)) rootSidesCard

/-- THE SECOND FORM's CARD OF 'vernierlaw13.OrderMachine'. -/
def orderMachineUptoCard : Claim7 := { stood := { row := orderMachineUptoRow, standIns := [], harness := (true, "64317550efd06841699c483c22f0224ab2b3aa443be53c0a8a6f59bfca748ef5"), looks := false }, kinds := [], alts := [], laidByText := true, laidKinds := [.data], laidTests := true, laidLooks := .later }
def OrderMachineUptoCardSaid : Prop := Claim7.holds Tryd.pinned (.plain (OpenSpec.upto orderMachineSpec)) orderMachineUptoCard

/-- THE SECOND FORM's CARD OF 'vernierlaw06.AddsubMachine'. -/
def addsubMachineUptoCard : Claim7 := { stood := { row := addsubMachineUptoRow, standIns := [], harness := (true, "64317550efd06841699c483c22f0224ab2b3aa443be53c0a8a6f59bfca748ef5"), looks := false }, kinds := [], alts := [], laidByText := true, laidKinds := [.data, .data], laidTests := true, laidLooks := .later }
def AddsubMachineUptoCardSaid : Prop := Claim7.holds Tryd.pinned (.plain (OpenSpec.upto addsubMachineSpec)) addsubMachineUptoCard

/-- THE SECOND FORM's CARD OF 'vernierlaw13.OrderPowers'. -/
def orderPowersUptoCard : Claim7 := { stood := { row := orderPowersUptoRow, standIns := [], harness := (true, "64317550efd06841699c483c22f0224ab2b3aa443be53c0a8a6f59bfca748ef5"), looks := false }, kinds := [], alts := [], laidByText := true, laidKinds := [.data, .data], laidTests := true, laidLooks := .later }
def OrderPowersUptoCardSaid : Prop := Claim7.holds Tryd.pinned (.plain (OpenSpec.upto orderPowersSpec)) orderPowersUptoCard

/-- THE SECOND FORM's CARD OF 'vernierlaw10.RootRises'. -/
def rootRisesUptoCard : Claim7 := { stood := { row := rootRisesUptoRow, standIns := [], harness := (true, "64317550efd06841699c483c22f0224ab2b3aa443be53c0a8a6f59bfca748ef5"), looks := false }, kinds := [], alts := [], laidByText := true, laidKinds := [.data, .data], laidTests := true, laidLooks := .later }
def RootRisesUptoCardSaid : Prop := Claim7.holds Tryd.pinned (.plain (OpenSpec.upto rootRisesSpec)) rootRisesUptoCard

/-- THE SECOND FORM's CARD OF 'vernierlaw10.RootBack'. -/
def rootBackUptoCard : Claim7 := { stood := { row := rootBackUptoRow, standIns := [], harness := (true, "64317550efd06841699c483c22f0224ab2b3aa443be53c0a8a6f59bfca748ef5"), looks := false }, kinds := [], alts := [], laidByText := true, laidKinds := [.data, .data], laidTests := true, laidLooks := .later }
def RootBackUptoCardSaid : Prop := Claim7.holds Tryd.pinned (.plain (OpenSpec.upto rootBackSpec)) rootBackUptoCard

/-- THE SECOND FORM's CARD OF 'vernierlaw10.RootSquares'. -/
def rootSquaresUptoCard : Claim7 := { stood := { row := rootSquaresUptoRow, standIns := [], harness := (true, "64317550efd06841699c483c22f0224ab2b3aa443be53c0a8a6f59bfca748ef5"), looks := false }, kinds := [], alts := [], laidByText := true, laidKinds := [.data, .data], laidTests := true, laidLooks := .later }
def RootSquaresUptoCardSaid : Prop := Claim7.holds Tryd.pinned (.plain (OpenSpec.upto rootSquaresSpec)) rootSquaresUptoCard

/-- THE SECOND FORM's CARD OF 'vernierlaw10.RootRecipSquares'. -/
def rootRecipSquaresUptoCard : Claim7 := { stood := { row := rootRecipSquaresUptoRow, standIns := [], harness := (true, "64317550efd06841699c483c22f0224ab2b3aa443be53c0a8a6f59bfca748ef5"), looks := false }, kinds := [], alts := [], laidByText := true, laidKinds := [.data, .data], laidTests := true, laidLooks := .later }
def RootRecipSquaresUptoCardSaid : Prop := Claim7.holds Tryd.pinned (.plain (OpenSpec.upto rootRecipSquaresSpec)) rootRecipSquaresUptoCard

/-- THE SECOND FORM's CARD OF 'vernierlaw10.RootSides'. -/
def rootSidesUptoCard : Claim7 := { stood := { row := rootSidesUptoRow, standIns := [], harness := (true, "64317550efd06841699c483c22f0224ab2b3aa443be53c0a8a6f59bfca748ef5"), looks := false }, kinds := [], alts := [], laidByText := true, laidKinds := [.data, .data], laidTests := true, laidLooks := .later }
def RootSidesUptoCardSaid : Prop := Claim7.holds Tryd.pinned (.plain (OpenSpec.upto rootSidesSpec)) rootSidesUptoCard
end Rows
end Go.Proofs.YtblmecpfokfjpaaDoor
