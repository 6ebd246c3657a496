/-
  DERIVED. GIVEN WITH THE SEED: THE CARDS: each row of YthgijgciokcpcaaGreatDoorRows.lean that lists a variable, with what it lists TIED to the program's text (the seventh form; the later family's looks); each row that meets fmt, with fmt's text TOLD by the authors' own Lean function (tested against real Go, not proved from fmt's source: count such statements apart). THE CARD IS WHAT COUNTS. Prove the row's statement (the work); the ties are given (YthgijgciokcpcaaGreatDoorTie.lean); close each card by the builder's one call (the guide's Derived/Test/ToyasCard.lean, 'card_holds'). Laid BY PROGRAM, IN A SANDBOX (cutbox-door.mjs). By AI agents, Wed Nov 11 2026. No macro, syntax, notation, axiom, sorry.
-/
import Derived.Test.YthgijgciokcpcaaGreatDoorRows
import GoSem.ClaimSeven
namespace Go.Proofs.YthgijgciokcpcaaGreatDoor
namespace Rows

/-- THE TIED CARD OF 'vernierlaw13.OrderSteps'. -/
def orderStepsCard : Claim7 := { stood := { row := orderStepsRow, standIns := [], harness := (true, "dbcb1d74d8b16f63371a21314372a7c0b6f216e9d454291ca15ffc31b36131ce"), looks := false }, kinds := [], alts := [], laidByText := true, laidKinds := [.data, .data], laidTests := true, laidLooks := .later }
def OrderStepsCardSaid : Prop := Claim7.holds Tryz.pinned (.plain (OpenSpec.ofChange orderStepsSpec)) orderStepsCard

/-- THE TIED CARD OF 'vernierlaw17.MetalAll'. -/
def metalAllCard : Claim7 := { stood := { row := metalAllRow, standIns := [], harness := (true, "dbcb1d74d8b16f63371a21314372a7c0b6f216e9d454291ca15ffc31b36131ce"), looks := false }, kinds := [], alts := [], laidByText := true, laidKinds := [.data], laidTests := true, laidLooks := .later }
def MetalAllCardSaid : Prop := Claim7.holds Tryz.pinned (.plain (OpenSpec.ofChange metalAllSpec)) metalAllCard

/-- THE TIED CARD OF 'verniertop.WholeTwice'. -/
def wholeTwiceCard : Claim7 := { stood := { row := wholeTwiceRow, standIns := [], harness := (true, "dbcb1d74d8b16f63371a21314372a7c0b6f216e9d454291ca15ffc31b36131ce"), looks := false }, kinds := [], alts := [], laidByText := true, laidKinds := [.data, .data], laidTests := true, laidLooks := .later }
def WholeTwiceCardSaid : Prop := Claim7.holds Tryz.pinned (.plain (OpenSpec.ofChange wholeTwiceSpec)) wholeTwiceCard

/-- THE TIED CARD OF 'vernierlaw17.MetalUnit'. -/
def metalUnitCard : Claim7 := { stood := { row := metalUnitRow, standIns := [], harness := (true, "dbcb1d74d8b16f63371a21314372a7c0b6f216e9d454291ca15ffc31b36131ce"), looks := false }, kinds := [], alts := [], laidByText := true, laidKinds := [.data, .data, .data], laidTests := true, laidLooks := .later }
def MetalUnitCardSaid : Prop := Claim7.holds Tryz.pinned (.plain (OpenSpec.ofChange metalUnitSpec)) metalUnitCard

/-- THE TIED CARD OF 'verniertop.WholeMetal'. -/
def wholeMetalCard : Claim7 := { stood := { row := wholeMetalRow, standIns := [], harness := (true, "dbcb1d74d8b16f63371a21314372a7c0b6f216e9d454291ca15ffc31b36131ce"), looks := false }, kinds := [], alts := [], laidByText := true, laidKinds := [.data, .data], laidTests := true, laidLooks := .later }
def WholeMetalCardSaid : Prop := Claim7.holds Tryz.pinned (.plain (OpenSpec.ofChange wholeMetalSpec)) wholeMetalCard

/-- THE SECOND FORM's CARD OF 'vernierlaw13.OrderSteps'. -/
def orderStepsUptoCard : Claim7 := { stood := { row := orderStepsUptoRow, standIns := [], harness := (true, "dbcb1d74d8b16f63371a21314372a7c0b6f216e9d454291ca15ffc31b36131ce"), looks := false }, kinds := [], alts := [], laidByText := true, laidKinds := [.data, .data], laidTests := true, laidLooks := .later }
def OrderStepsUptoCardSaid : Prop := Claim7.holds Tryz.pinned (.plain (OpenSpec.upto orderStepsSpec)) orderStepsUptoCard

/-- THE SECOND FORM's CARD OF 'vernierlaw17.MetalAll'. -/
def metalAllUptoCard : Claim7 := { stood := { row := metalAllUptoRow, standIns := [], harness := (true, "dbcb1d74d8b16f63371a21314372a7c0b6f216e9d454291ca15ffc31b36131ce"), looks := false }, kinds := [], alts := [], laidByText := true, laidKinds := [.data], laidTests := true, laidLooks := .later }
def MetalAllUptoCardSaid : Prop := Claim7.holds Tryz.pinned (.plain (OpenSpec.upto metalAllSpec)) metalAllUptoCard

/-- THE SECOND FORM's CARD OF 'verniertop.WholeTwice'. -/
def wholeTwiceUptoCard : Claim7 := { stood := { row := wholeTwiceUptoRow, standIns := [], harness := (true, "dbcb1d74d8b16f63371a21314372a7c0b6f216e9d454291ca15ffc31b36131ce"), looks := false }, kinds := [], alts := [], laidByText := true, laidKinds := [.data, .data], laidTests := true, laidLooks := .later }
def WholeTwiceUptoCardSaid : Prop := Claim7.holds Tryz.pinned (.plain (OpenSpec.upto wholeTwiceSpec)) wholeTwiceUptoCard

/-- THE SECOND FORM's CARD OF 'vernierlaw17.MetalUnit'. -/
def metalUnitUptoCard : Claim7 := { stood := { row := metalUnitUptoRow, standIns := [], harness := (true, "dbcb1d74d8b16f63371a21314372a7c0b6f216e9d454291ca15ffc31b36131ce"), looks := false }, kinds := [], alts := [], laidByText := true, laidKinds := [.data, .data, .data], laidTests := true, laidLooks := .later }
def MetalUnitUptoCardSaid : Prop := Claim7.holds Tryz.pinned (.plain (OpenSpec.upto metalUnitSpec)) metalUnitUptoCard

/-- THE SECOND FORM's CARD OF 'verniertop.WholeMetal'. -/
def wholeMetalUptoCard : Claim7 := { stood := { row := wholeMetalUptoRow, standIns := [], harness := (true, "dbcb1d74d8b16f63371a21314372a7c0b6f216e9d454291ca15ffc31b36131ce"), looks := false }, kinds := [], alts := [], laidByText := true, laidKinds := [.data, .data], laidTests := true, laidLooks := .later }
def WholeMetalUptoCardSaid : Prop := Claim7.holds Tryz.pinned (.plain (OpenSpec.upto wholeMetalSpec)) wholeMetalUptoCard
end Rows
end Go.Proofs.YthgijgciokcpcaaGreatDoor
