/-
  DERIVED. GIVEN WITH THE SEED: THE CARDS: each row of YtkkdblemeoehpaaDoorRows.lean that lists a variable, with what it lists TIED to the program's text (the seventh form; the later family's looks); each row that meets fmt, with fmt's text TOLD by the authors' own Lean function (tested against real Go, not proved from fmt's source: count such statements apart). THE CARD IS WHAT COUNTS. Prove the row's statement (the work); the ties are given (YtkkdblemeoehpaaDoorTie.lean); close each card by the builder's one call (the guide's Derived/Test/ToyasCard.lean, 'card_holds'). Laid BY PROGRAM, IN A SANDBOX (cutbox-door.mjs). By AI agents, Wed Nov 11 2026. No macro, syntax, notation, axiom, sorry.
-/
import Derived.Test.YtkkdblemeoehpaaDoorRows
import GoSem.ClaimSeven
namespace Go.Proofs.YtkkdblemeoehpaaDoor
namespace Rows

/-- THE TIED CARD OF 'vernierlaw13.OrderCompares'. -/
def orderComparesCard : Claim7 := { stood := { row := orderComparesRow, standIns := [], harness := (true, "286335300862fdfc8c0ae5583a8f97c528054fe456b16d5fc2f9997c7ffbc309"), looks := false }, kinds := [], alts := [], laidByText := true, laidKinds := [.data], laidTests := true, laidLooks := .later }
def OrderComparesCardSaid : Prop := Claim7.holds Tryd.pinned (.plain (OpenSpec.ofChange orderComparesSpec)) orderComparesCard

/-- THE TIED CARD OF 'vernierlaw13.OrderPicks'. -/
def orderPicksCard : Claim7 := { stood := { row := orderPicksRow, standIns := [], harness := (true, "286335300862fdfc8c0ae5583a8f97c528054fe456b16d5fc2f9997c7ffbc309"), looks := false }, kinds := [], alts := [], laidByText := true, laidKinds := [.data], laidTests := true, laidLooks := .later }
def OrderPicksCardSaid : Prop := Claim7.holds Tryd.pinned (.plain (OpenSpec.ofChange orderPicksSpec)) orderPicksCard

/-- THE TIED CARD OF 'vernierlaw13.OrderChain'. -/
def orderChainCard : Claim7 := { stood := { row := orderChainRow, standIns := [], harness := (true, "286335300862fdfc8c0ae5583a8f97c528054fe456b16d5fc2f9997c7ffbc309"), looks := false }, kinds := [], alts := [], laidByText := true, laidKinds := [.data], laidTests := true, laidLooks := .later }
def OrderChainCardSaid : Prop := Claim7.holds Tryd.pinned (.plain (OpenSpec.ofChange orderChainSpec)) orderChainCard

/-- THE TIED CARD OF 'vernierlaw06.AddsubAlls'. -/
def addsubAllsCard : Claim7 := { stood := { row := addsubAllsRow, standIns := [], harness := (true, "286335300862fdfc8c0ae5583a8f97c528054fe456b16d5fc2f9997c7ffbc309"), looks := false }, kinds := [], alts := [], laidByText := true, laidKinds := [.data, .data], laidTests := true, laidLooks := .later }
def AddsubAllsCardSaid : Prop := Claim7.holds Tryd.pinned (.plain (OpenSpec.ofChange addsubAllsSpec)) addsubAllsCard

/-- THE TIED CARD OF 'vernierlaw06.AddsubLaws'. -/
def addsubLawsCard : Claim7 := { stood := { row := addsubLawsRow, standIns := [], harness := (true, "286335300862fdfc8c0ae5583a8f97c528054fe456b16d5fc2f9997c7ffbc309"), looks := false }, kinds := [], alts := [], laidByText := true, laidKinds := [.data, .data], laidTests := true, laidLooks := .later }
def AddsubLawsCardSaid : Prop := Claim7.holds Tryd.pinned (.plain (OpenSpec.ofChange addsubLawsSpec)) addsubLawsCard

/-- THE TIED CARD OF 'vernierlaw06.AddsubModes'. -/
def addsubModesCard : Claim7 := { stood := { row := addsubModesRow, standIns := [], harness := (true, "286335300862fdfc8c0ae5583a8f97c528054fe456b16d5fc2f9997c7ffbc309"), looks := false }, kinds := [], alts := [], laidByText := true, laidKinds := [.data, .data], laidTests := true, laidLooks := .later }
def AddsubModesCardSaid : Prop := Claim7.holds Tryd.pinned (.plain (OpenSpec.ofChange addsubModesSpec)) addsubModesCard

/-- THE TIED CARD OF 'vernierlaw06.AddsubOrder'. -/
def addsubOrderCard : Claim7 := { stood := { row := addsubOrderRow, standIns := [], harness := (true, "286335300862fdfc8c0ae5583a8f97c528054fe456b16d5fc2f9997c7ffbc309"), looks := false }, kinds := [], alts := [], laidByText := true, laidKinds := [.data, .data], laidTests := true, laidLooks := .later }
def AddsubOrderCardSaid : Prop := Claim7.holds Tryd.pinned (.plain (OpenSpec.ofChange addsubOrderSpec)) addsubOrderCard

/-- THE TIED CARD OF 'vernierlaw13.OrderScales'. -/
def orderScalesCard : Claim7 := { stood := { row := orderScalesRow, standIns := [], harness := (true, "286335300862fdfc8c0ae5583a8f97c528054fe456b16d5fc2f9997c7ffbc309"), looks := false }, kinds := [], alts := [], laidByText := true, laidKinds := [.data, .data], laidTests := true, laidLooks := .later }
def OrderScalesCardSaid : Prop := Claim7.holds Tryd.pinned (.plain (OpenSpec.ofChange orderScalesSpec)) orderScalesCard

/-- THE TIED CARD OF 'vernierlaw13.OrderNeighbours'. -/
def orderNeighboursCard : Claim7 := { stood := { row := orderNeighboursRow, standIns := [], harness := (true, "286335300862fdfc8c0ae5583a8f97c528054fe456b16d5fc2f9997c7ffbc309"), looks := false }, kinds := [], alts := [], laidByText := true, laidKinds := [.data, .data], laidTests := true, laidLooks := .later }
def OrderNeighboursCardSaid : Prop := Claim7.holds Tryd.pinned (.plain (OpenSpec.ofChange orderNeighboursSpec)) orderNeighboursCard

/-- THE TIED CARD OF 'vernierlaw06.AddsubClose'. -/
def addsubCloseCard : Claim7 := { stood := { row := addsubCloseRow, standIns := [], harness := (true, "286335300862fdfc8c0ae5583a8f97c528054fe456b16d5fc2f9997c7ffbc309"), looks := false }, kinds := [], alts := [], laidByText := true, laidKinds := [.data, .data], laidTests := true, laidLooks := .later }
def AddsubCloseCardSaid : Prop := Claim7.holds Tryd.pinned (.plain (OpenSpec.ofChange addsubCloseSpec)) addsubCloseCard

/-- THE TIED CARD OF 'vernierlaw06.AddsubLayers'. -/
def addsubLayersCard : Claim7 := { stood := { row := addsubLayersRow, standIns := [], harness := (true, "286335300862fdfc8c0ae5583a8f97c528054fe456b16d5fc2f9997c7ffbc309"), looks := false }, kinds := [], alts := [], laidByText := true, laidKinds := [.data, .data], laidTests := true, laidLooks := .later }
def AddsubLayersCardSaid : Prop := Claim7.holds Tryd.pinned (.plain (OpenSpec.ofChange addsubLayersSpec)) addsubLayersCard

/-- THE SECOND FORM's CARD OF 'vernierlaw13.OrderCompares'. -/
def orderComparesUptoCard : Claim7 := { stood := { row := orderComparesUptoRow, standIns := [], harness := (true, "286335300862fdfc8c0ae5583a8f97c528054fe456b16d5fc2f9997c7ffbc309"), looks := false }, kinds := [], alts := [], laidByText := true, laidKinds := [.data], laidTests := true, laidLooks := .later }
def OrderComparesUptoCardSaid : Prop := Claim7.holds Tryd.pinned (.plain (OpenSpec.upto orderComparesSpec)) orderComparesUptoCard

/-- THE SECOND FORM's CARD OF 'vernierlaw13.OrderPicks'. -/
def orderPicksUptoCard : Claim7 := { stood := { row := orderPicksUptoRow, standIns := [], harness := (true, "286335300862fdfc8c0ae5583a8f97c528054fe456b16d5fc2f9997c7ffbc309"), looks := false }, kinds := [], alts := [], laidByText := true, laidKinds := [.data], laidTests := true, laidLooks := .later }
def OrderPicksUptoCardSaid : Prop := Claim7.holds Tryd.pinned (.plain (OpenSpec.upto orderPicksSpec)) orderPicksUptoCard

/-- THE SECOND FORM's CARD OF 'vernierlaw13.OrderChain'. -/
def orderChainUptoCard : Claim7 := { stood := { row := orderChainUptoRow, standIns := [], harness := (true, "286335300862fdfc8c0ae5583a8f97c528054fe456b16d5fc2f9997c7ffbc309"), looks := false }, kinds := [], alts := [], laidByText := true, laidKinds := [.data], laidTests := true, laidLooks := .later }
def OrderChainUptoCardSaid : Prop := Claim7.holds Tryd.pinned (.plain (OpenSpec.upto orderChainSpec)) orderChainUptoCard

/-- THE SECOND FORM's CARD OF 'vernierlaw06.AddsubAlls'. -/
def addsubAllsUptoCard : Claim7 := { stood := { row := addsubAllsUptoRow, standIns := [], harness := (true, "286335300862fdfc8c0ae5583a8f97c528054fe456b16d5fc2f9997c7ffbc309"), looks := false }, kinds := [], alts := [], laidByText := true, laidKinds := [.data, .data], laidTests := true, laidLooks := .later }
def AddsubAllsUptoCardSaid : Prop := Claim7.holds Tryd.pinned (.plain (OpenSpec.upto addsubAllsSpec)) addsubAllsUptoCard

/-- THE SECOND FORM's CARD OF 'vernierlaw06.AddsubLaws'. -/
def addsubLawsUptoCard : Claim7 := { stood := { row := addsubLawsUptoRow, standIns := [], harness := (true, "286335300862fdfc8c0ae5583a8f97c528054fe456b16d5fc2f9997c7ffbc309"), looks := false }, kinds := [], alts := [], laidByText := true, laidKinds := [.data, .data], laidTests := true, laidLooks := .later }
def AddsubLawsUptoCardSaid : Prop := Claim7.holds Tryd.pinned (.plain (OpenSpec.upto addsubLawsSpec)) addsubLawsUptoCard

/-- THE SECOND FORM's CARD OF 'vernierlaw06.AddsubModes'. -/
def addsubModesUptoCard : Claim7 := { stood := { row := addsubModesUptoRow, standIns := [], harness := (true, "286335300862fdfc8c0ae5583a8f97c528054fe456b16d5fc2f9997c7ffbc309"), looks := false }, kinds := [], alts := [], laidByText := true, laidKinds := [.data, .data], laidTests := true, laidLooks := .later }
def AddsubModesUptoCardSaid : Prop := Claim7.holds Tryd.pinned (.plain (OpenSpec.upto addsubModesSpec)) addsubModesUptoCard

/-- THE SECOND FORM's CARD OF 'vernierlaw06.AddsubOrder'. -/
def addsubOrderUptoCard : Claim7 := { stood := { row := addsubOrderUptoRow, standIns := [], harness := (true, "286335300862fdfc8c0ae5583a8f97c528054fe456b16d5fc2f9997c7ffbc309"), looks := false }, kinds := [], alts := [], laidByText := true, laidKinds := [.data, .data], laidTests := true, laidLooks := .later }
def AddsubOrderUptoCardSaid : Prop := Claim7.holds Tryd.pinned (.plain (OpenSpec.upto addsubOrderSpec)) addsubOrderUptoCard

/-- THE SECOND FORM's CARD OF 'vernierlaw13.OrderScales'. -/
def orderScalesUptoCard : Claim7 := { stood := { row := orderScalesUptoRow, standIns := [], harness := (true, "286335300862fdfc8c0ae5583a8f97c528054fe456b16d5fc2f9997c7ffbc309"), looks := false }, kinds := [], alts := [], laidByText := true, laidKinds := [.data, .data], laidTests := true, laidLooks := .later }
def OrderScalesUptoCardSaid : Prop := Claim7.holds Tryd.pinned (.plain (OpenSpec.upto orderScalesSpec)) orderScalesUptoCard

/-- THE SECOND FORM's CARD OF 'vernierlaw13.OrderNeighbours'. -/
def orderNeighboursUptoCard : Claim7 := { stood := { row := orderNeighboursUptoRow, standIns := [], harness := (true, "286335300862fdfc8c0ae5583a8f97c528054fe456b16d5fc2f9997c7ffbc309"), looks := false }, kinds := [], alts := [], laidByText := true, laidKinds := [.data, .data], laidTests := true, laidLooks := .later }
def OrderNeighboursUptoCardSaid : Prop := Claim7.holds Tryd.pinned (.plain (OpenSpec.upto orderNeighboursSpec)) orderNeighboursUptoCard

/-- THE SECOND FORM's CARD OF 'vernierlaw06.AddsubClose'. -/
def addsubCloseUptoCard : Claim7 := { stood := { row := addsubCloseUptoRow, standIns := [], harness := (true, "286335300862fdfc8c0ae5583a8f97c528054fe456b16d5fc2f9997c7ffbc309"), looks := false }, kinds := [], alts := [], laidByText := true, laidKinds := [.data, .data], laidTests := true, laidLooks := .later }
def AddsubCloseUptoCardSaid : Prop := Claim7.holds Tryd.pinned (.plain (OpenSpec.upto addsubCloseSpec)) addsubCloseUptoCard

/-- THE SECOND FORM's CARD OF 'vernierlaw06.AddsubLayers'. -/
def addsubLayersUptoCard : Claim7 := { stood := { row := addsubLayersUptoRow, standIns := [], harness := (true, "286335300862fdfc8c0ae5583a8f97c528054fe456b16d5fc2f9997c7ffbc309"), looks := false }, kinds := [], alts := [], laidByText := true, laidKinds := [.data, .data], laidTests := true, laidLooks := .later }
def AddsubLayersUptoCardSaid : Prop := Claim7.holds Tryd.pinned (.plain (OpenSpec.upto addsubLayersSpec)) addsubLayersUptoCard
end Rows
end Go.Proofs.YtkkdblemeoehpaaDoor
