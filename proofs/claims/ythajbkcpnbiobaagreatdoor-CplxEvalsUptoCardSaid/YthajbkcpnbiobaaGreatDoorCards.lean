/-
  DERIVED. GIVEN WITH THE SEED: THE CARDS: each row of YthajbkcpnbiobaaGreatDoorRows.lean that lists a variable, with what it lists TIED to the program's text (the seventh form; the later family's looks); each row that meets fmt, with fmt's text TOLD by the authors' own Lean function (tested against real Go, not proved from fmt's source: count such statements apart). THE CARD IS WHAT COUNTS. Prove the row's statement (the work); the ties are given (YthajbkcpnbiobaaGreatDoorTie.lean); close each card by the builder's one call (the guide's Derived/Test/ToyasCard.lean, 'card_holds'). Laid BY PROGRAM, IN A SANDBOX (cutbox-door.mjs). By AI agents, Wed Nov 11 2026. No macro, syntax, notation, axiom, sorry.
-/
import Derived.Test.YthajbkcpnbiobaaGreatDoorRows
import GoSem.ClaimSeven
namespace Go.Proofs.YthajbkcpnbiobaaGreatDoor
namespace Rows

/-- THE TIED CARD OF 'vernierlaw24.CplxAlls'. -/
def cplxAllsCard : Claim7 := { stood := { row := cplxAllsRow, standIns := [], harness := (true, "f4d57e94770c8e07f77ac795e7d614102c913b9c5527a5a691a146cf201b7e7b"), looks := false }, kinds := [], alts := [], laidByText := true, laidKinds := [.data, .data, .data], laidTests := true, laidLooks := .later }
def CplxAllsCardSaid : Prop := Claim7.holds Tryz.pinned (.plain (OpenSpec.ofChange cplxAllsSpec)) cplxAllsCard

/-- THE TIED CARD OF 'vernierlaw24.CplxMachine'. -/
def cplxMachineCard : Claim7 := { stood := { row := cplxMachineRow, standIns := [], harness := (true, "f4d57e94770c8e07f77ac795e7d614102c913b9c5527a5a691a146cf201b7e7b"), looks := false }, kinds := [], alts := [], laidByText := true, laidKinds := [.data, .data, .data], laidTests := true, laidLooks := .later }
def CplxMachineCardSaid : Prop := Claim7.holds Tryz.pinned (.plain (OpenSpec.ofChange cplxMachineSpec)) cplxMachineCard

/-- THE TIED CARD OF 'vernierlaw24.CplxMetal'. -/
def cplxMetalCard : Claim7 := { stood := { row := cplxMetalRow, standIns := [], harness := (true, "f4d57e94770c8e07f77ac795e7d614102c913b9c5527a5a691a146cf201b7e7b"), looks := false }, kinds := [], alts := [], laidByText := true, laidKinds := [.data, .data, .data], laidTests := true, laidLooks := .later }
def CplxMetalCardSaid : Prop := Claim7.holds Tryz.pinned (.plain (OpenSpec.ofChange cplxMetalSpec)) cplxMetalCard

/-- THE TIED CARD OF 'vernierlaw24.CplxEvals'. -/
def cplxEvalsCard : Claim7 := { stood := { row := cplxEvalsRow, standIns := [], harness := (true, "f4d57e94770c8e07f77ac795e7d614102c913b9c5527a5a691a146cf201b7e7b"), looks := false }, kinds := [], alts := [], laidByText := true, laidKinds := [.data, .data, .data], laidTests := true, laidLooks := .later }
def CplxEvalsCardSaid : Prop := Claim7.holds Tryz.pinned (.plain (OpenSpec.ofChange cplxEvalsSpec)) cplxEvalsCard

/-- THE TIED CARD OF 'vernierlaw24.CplxLaws'. -/
def cplxLawsCard : Claim7 := { stood := { row := cplxLawsRow, standIns := [], harness := (true, "f4d57e94770c8e07f77ac795e7d614102c913b9c5527a5a691a146cf201b7e7b"), looks := false }, kinds := [], alts := [], laidByText := true, laidKinds := [.data, .data, .data], laidTests := true, laidLooks := .later }
def CplxLawsCardSaid : Prop := Claim7.holds Tryz.pinned (.plain (OpenSpec.ofChange cplxLawsSpec)) cplxLawsCard

/-- THE TIED CARD OF 'verniertop.WholeComplex'. -/
def wholeComplexCard : Claim7 := { stood := { row := wholeComplexRow, standIns := [], harness := (true, "f4d57e94770c8e07f77ac795e7d614102c913b9c5527a5a691a146cf201b7e7b"), looks := false }, kinds := [], alts := [], laidByText := true, laidKinds := [.data, .data, .data], laidTests := true, laidLooks := .later }
def WholeComplexCardSaid : Prop := Claim7.holds Tryz.pinned (.plain (OpenSpec.ofChange wholeComplexSpec)) wholeComplexCard

/-- THE SECOND FORM's CARD OF 'vernierlaw24.CplxAlls'. -/
def cplxAllsUptoCard : Claim7 := { stood := { row := cplxAllsUptoRow, standIns := [], harness := (true, "f4d57e94770c8e07f77ac795e7d614102c913b9c5527a5a691a146cf201b7e7b"), looks := false }, kinds := [], alts := [], laidByText := true, laidKinds := [.data, .data, .data], laidTests := true, laidLooks := .later }
def CplxAllsUptoCardSaid : Prop := Claim7.holds Tryz.pinned (.plain (OpenSpec.upto cplxAllsSpec)) cplxAllsUptoCard

/-- THE SECOND FORM's CARD OF 'vernierlaw24.CplxMachine'. -/
def cplxMachineUptoCard : Claim7 := { stood := { row := cplxMachineUptoRow, standIns := [], harness := (true, "f4d57e94770c8e07f77ac795e7d614102c913b9c5527a5a691a146cf201b7e7b"), looks := false }, kinds := [], alts := [], laidByText := true, laidKinds := [.data, .data, .data], laidTests := true, laidLooks := .later }
def CplxMachineUptoCardSaid : Prop := Claim7.holds Tryz.pinned (.plain (OpenSpec.upto cplxMachineSpec)) cplxMachineUptoCard

/-- THE SECOND FORM's CARD OF 'vernierlaw24.CplxMetal'. -/
def cplxMetalUptoCard : Claim7 := { stood := { row := cplxMetalUptoRow, standIns := [], harness := (true, "f4d57e94770c8e07f77ac795e7d614102c913b9c5527a5a691a146cf201b7e7b"), looks := false }, kinds := [], alts := [], laidByText := true, laidKinds := [.data, .data, .data], laidTests := true, laidLooks := .later }
def CplxMetalUptoCardSaid : Prop := Claim7.holds Tryz.pinned (.plain (OpenSpec.upto cplxMetalSpec)) cplxMetalUptoCard

/-- THE SECOND FORM's CARD OF 'vernierlaw24.CplxEvals'. -/
def cplxEvalsUptoCard : Claim7 := { stood := { row := cplxEvalsUptoRow, standIns := [], harness := (true, "f4d57e94770c8e07f77ac795e7d614102c913b9c5527a5a691a146cf201b7e7b"), looks := false }, kinds := [], alts := [], laidByText := true, laidKinds := [.data, .data, .data], laidTests := true, laidLooks := .later }
def CplxEvalsUptoCardSaid : Prop := Claim7.holds Tryz.pinned (.plain (OpenSpec.upto cplxEvalsSpec)) cplxEvalsUptoCard

/-- THE SECOND FORM's CARD OF 'vernierlaw24.CplxLaws'. -/
def cplxLawsUptoCard : Claim7 := { stood := { row := cplxLawsUptoRow, standIns := [], harness := (true, "f4d57e94770c8e07f77ac795e7d614102c913b9c5527a5a691a146cf201b7e7b"), looks := false }, kinds := [], alts := [], laidByText := true, laidKinds := [.data, .data, .data], laidTests := true, laidLooks := .later }
def CplxLawsUptoCardSaid : Prop := Claim7.holds Tryz.pinned (.plain (OpenSpec.upto cplxLawsSpec)) cplxLawsUptoCard

/-- THE SECOND FORM's CARD OF 'verniertop.WholeComplex'. -/
def wholeComplexUptoCard : Claim7 := { stood := { row := wholeComplexUptoRow, standIns := [], harness := (true, "f4d57e94770c8e07f77ac795e7d614102c913b9c5527a5a691a146cf201b7e7b"), looks := false }, kinds := [], alts := [], laidByText := true, laidKinds := [.data, .data, .data], laidTests := true, laidLooks := .later }
def WholeComplexUptoCardSaid : Prop := Claim7.holds Tryz.pinned (.plain (OpenSpec.upto wholeComplexSpec)) wholeComplexUptoCard
end Rows
end Go.Proofs.YthajbkcpnbiobaaGreatDoor
