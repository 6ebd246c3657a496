/-
  DERIVED. GIVEN WITH THE SEED: THE CARDS: each row of YtjaianlbnfomiaaDoorRows.lean that lists a variable, with what it lists TIED to the program's text (the seventh form; the later family's looks); each row that meets fmt, with fmt's text TOLD by the authors' own Lean function (tested against real Go, not proved from fmt's source: count such statements apart). THE CARD IS WHAT COUNTS. Prove the row's statement (the work); the ties are given (YtjaianlbnfomiaaDoorTie.lean); close each card by the builder's one call (the guide's Derived/Test/ToyasCard.lean, 'card_holds'). Laid BY PROGRAM, IN A SANDBOX (cutbox-door.mjs). By AI agents, Wed Nov 11 2026. No macro, syntax, notation, axiom, sorry.
-/
import Derived.Test.YtjaianlbnfomiaaDoorRows
import GoSem.ClaimSeven
namespace Go.Proofs.YtjaianlbnfomiaaDoor
namespace Rows

/-- THE TIED CARD OF 'verniertop.WholeMachine32'. -/
def wholeMachine32Card : Claim7 := { stood := { row := wholeMachine32Row, standIns := [], harness := (true, "ad30750fa382e8c09bf998d7aeb73b94c0f8c460e318d9dae603b3c245bd8f5b"), looks := false }, kinds := [], alts := [], laidByText := true, laidKinds := [.data, .data], laidTests := true, laidLooks := .later }
def WholeMachine32CardSaid : Prop := Claim7.holds Tryd.pinned (.plain (OpenSpec.ofChange wholeMachine32Spec)) wholeMachine32Card

/-- THE SECOND FORM's CARD OF 'verniertop.WholeMachine32'. -/
def wholeMachine32UptoCard : Claim7 := { stood := { row := wholeMachine32UptoRow, standIns := [], harness := (true, "ad30750fa382e8c09bf998d7aeb73b94c0f8c460e318d9dae603b3c245bd8f5b"), looks := false }, kinds := [], alts := [], laidByText := true, laidKinds := [.data, .data], laidTests := true, laidLooks := .later }
def WholeMachine32UptoCardSaid : Prop := Claim7.holds Tryd.pinned (.plain (OpenSpec.upto wholeMachine32Spec)) wholeMachine32UptoCard
end Rows
end Go.Proofs.YtjaianlbnfomiaaDoor
