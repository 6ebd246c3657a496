/-
  DERIVED. GIVEN WITH THE SEED: THE CARDS: each row of YtblmecpfokfjpaaGreatDoorRows.lean that lists a variable, with what it lists TIED to the program's text (the seventh form; the later family's looks); each row that meets fmt, with fmt's text TOLD by the authors' own Lean function (tested against real Go, not proved from fmt's source: count such statements apart). THE CARD IS WHAT COUNTS. Prove the row's statement (the work); the ties are given (YtblmecpfokfjpaaGreatDoorTie.lean); close each card by the builder's one call (the guide's Derived/Test/ToyasCard.lean, 'card_holds'). Laid BY PROGRAM, IN A SANDBOX (cutbox-door.mjs). By AI agents, Wed Nov 11 2026. No macro, syntax, notation, axiom, sorry.
-/
import Derived.Test.YtblmecpfokfjpaaGreatDoorRows
import GoSem.ClaimSeven
namespace Go.Proofs.YtblmecpfokfjpaaGreatDoor
namespace Rows

/-- THE TIED CARD OF 'vernierlaw10.RootSqrts'. -/
def rootSqrtsCard : Claim7 := { stood := { row := rootSqrtsRow, standIns := [], harness := (true, "34d31b892def0f1959777376864a17a9a75e2a51af26bbb427f5b0fa3d02327f"), looks := false }, kinds := [], alts := [], laidByText := true, laidKinds := [.data, .data], laidTests := true, laidLooks := .later }
def RootSqrtsCardSaid : Prop := Claim7.holds Tryz.pinned (.plain (OpenSpec.ofChange rootSqrtsSpec)) rootSqrtsCard

/-- THE TIED CARD OF 'vernierlaw10.RootHypots'. -/
def rootHypotsCard : Claim7 := { stood := { row := rootHypotsRow, standIns := [], harness := (true, "34d31b892def0f1959777376864a17a9a75e2a51af26bbb427f5b0fa3d02327f"), looks := false }, kinds := [], alts := [], laidByText := true, laidKinds := [.data, .data], laidTests := true, laidLooks := .later }
def RootHypotsCardSaid : Prop := Claim7.holds Tryz.pinned (.plain (OpenSpec.ofChange rootHypotsSpec)) rootHypotsCard

/-- THE TIED CARD OF 'vernierlaw10.RootRecips'. -/
def rootRecipsCard : Claim7 := { stood := { row := rootRecipsRow, standIns := [], harness := (true, "34d31b892def0f1959777376864a17a9a75e2a51af26bbb427f5b0fa3d02327f"), looks := false }, kinds := [], alts := [], laidByText := true, laidKinds := [.data, .data], laidTests := true, laidLooks := .later }
def RootRecipsCardSaid : Prop := Claim7.holds Tryz.pinned (.plain (OpenSpec.ofChange rootRecipsSpec)) rootRecipsCard

/-- THE SECOND FORM's CARD OF 'vernierlaw10.RootSqrts'. -/
def rootSqrtsUptoCard : Claim7 := { stood := { row := rootSqrtsUptoRow, standIns := [], harness := (true, "34d31b892def0f1959777376864a17a9a75e2a51af26bbb427f5b0fa3d02327f"), looks := false }, kinds := [], alts := [], laidByText := true, laidKinds := [.data, .data], laidTests := true, laidLooks := .later }
def RootSqrtsUptoCardSaid : Prop := Claim7.holds Tryz.pinned (.plain (OpenSpec.upto rootSqrtsSpec)) rootSqrtsUptoCard

/-- THE SECOND FORM's CARD OF 'vernierlaw10.RootHypots'. -/
def rootHypotsUptoCard : Claim7 := { stood := { row := rootHypotsUptoRow, standIns := [], harness := (true, "34d31b892def0f1959777376864a17a9a75e2a51af26bbb427f5b0fa3d02327f"), looks := false }, kinds := [], alts := [], laidByText := true, laidKinds := [.data, .data], laidTests := true, laidLooks := .later }
def RootHypotsUptoCardSaid : Prop := Claim7.holds Tryz.pinned (.plain (OpenSpec.upto rootHypotsSpec)) rootHypotsUptoCard

/-- THE SECOND FORM's CARD OF 'vernierlaw10.RootRecips'. -/
def rootRecipsUptoCard : Claim7 := { stood := { row := rootRecipsUptoRow, standIns := [], harness := (true, "34d31b892def0f1959777376864a17a9a75e2a51af26bbb427f5b0fa3d02327f"), looks := false }, kinds := [], alts := [], laidByText := true, laidKinds := [.data, .data], laidTests := true, laidLooks := .later }
def RootRecipsUptoCardSaid : Prop := Claim7.holds Tryz.pinned (.plain (OpenSpec.upto rootRecipsSpec)) rootRecipsUptoCard
end Rows
end Go.Proofs.YtblmecpfokfjpaaGreatDoor
