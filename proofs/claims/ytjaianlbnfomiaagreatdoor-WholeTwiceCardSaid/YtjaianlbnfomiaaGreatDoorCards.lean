/-
  DERIVED. GIVEN WITH THE SEED: THE CARDS: each row of YtjaianlbnfomiaaGreatDoorRows.lean that lists a variable, with what it lists TIED to the program's text (the seventh form; the later family's looks); each row that meets fmt, with fmt's text TOLD by the authors' own Lean function (tested against real Go, not proved from fmt's source: count such statements apart). THE CARD IS WHAT COUNTS. Prove the row's statement (the work); the ties are given (YtjaianlbnfomiaaGreatDoorTie.lean); close each card by the builder's one call (the guide's Derived/Test/ToyasCard.lean, 'card_holds'). Laid BY PROGRAM, IN A SANDBOX (cutbox-door.mjs). By AI agents, Wed Nov 11 2026. No macro, syntax, notation, axiom, sorry.
-/
import Derived.Test.YtjaianlbnfomiaaGreatDoorRows
import GoSem.ClaimSeven
namespace Go.Proofs.YtjaianlbnfomiaaGreatDoor
namespace Rows

/-- THE TIED CARD OF 'verniertop.WholeTwice'. -/
def wholeTwiceCard : Claim7 := { stood := { row := wholeTwiceRow, standIns := [], harness := (true, "b2c01077cfc9185def1b550e987437db17afa5d73de2c03dec3e2c60fccc6ec0"), looks := false }, kinds := [], alts := [], laidByText := true, laidKinds := [.data, .data], laidTests := true, laidLooks := .later }
def WholeTwiceCardSaid : Prop := Claim7.holds Tryz.pinned (.plain (OpenSpec.ofChange wholeTwiceSpec)) wholeTwiceCard

/-- THE SECOND FORM's CARD OF 'verniertop.WholeTwice'. -/
def wholeTwiceUptoCard : Claim7 := { stood := { row := wholeTwiceUptoRow, standIns := [], harness := (true, "b2c01077cfc9185def1b550e987437db17afa5d73de2c03dec3e2c60fccc6ec0"), looks := false }, kinds := [], alts := [], laidByText := true, laidKinds := [.data, .data], laidTests := true, laidLooks := .later }
def WholeTwiceUptoCardSaid : Prop := Claim7.holds Tryz.pinned (.plain (OpenSpec.upto wholeTwiceSpec)) wholeTwiceUptoCard
end Rows
end Go.Proofs.YtjaianlbnfomiaaGreatDoor
