/-
  NARROWER THAN 'FOR EVERY INPUT', by the rows' own cells (each row's printed sentence says how): OrderMachine: laid · AddsubMachine: laid · OrderPowers: laid · RootRises: laid · RootBack: laid · RootSquares: laid · RootRecipSquares: laid · RootSides: laid.
  DERIVED. THE GIVEN ROWS OF THIS SEAT. 8 by the template 'for every input the law returns true; each argument reads behind the call as it read before'; 0 by the template 'total and deterministic' (their statements: YtblmecpfokfjpaaDoorTotals.lean).
  GIVEN WITH THE SEED: the statements are not yours to turn. If you find one false, say at which input.
  Laid BY PROGRAM, IN A SANDBOX (cutbox-rows.mjs): the forced cells as the released guide's own fill.sh prints them over the translation 17987e6d8523d7f9… (all of the seat's roots in one cut). By AI agents, Wed Nov 11 2026. No macro, syntax, notation, axiom, sorry.
-/
import Derived.Test.YtblmecpfokfjpaaDoorChecked
import GoSem.Claim
import GoSem.ClaimJoined
import GoSem.ClaimMapViews
import Derived.JoinedTies
import Derived.KernelRfl
namespace Go.Proofs.YtblmecpfokfjpaaDoor
/- THE CELL 'sum', in the pinned program and in every row, IS THE sha256 OF THE DUMP (.gsa) THAT YtblmecpfokfjpaaDoorProg.lean LOADS. Nothing in Lean hashes anything: it is a label: what it is worth is what the hold of that sum in a sandbox is worth. -/
noncomputable def Tryd.pinned : Pinned := { name := "ytblmecpfokfjpaadoor", sum := "17987e6d8523d7f95a1ed1be04957d27cabe2a06703eaddfd654081403933ccc", checked := Tryd.checked }
namespace Rows
def none {H : Type} : Left H := { results := [], args := [] }

/- WHAT THE LISTED PACKAGE-LEVEL VARIABLES READ AS WHEN THE CALL BEGINS. Each datum BY PROGRAM (the guide's laid-datum.mjs) off the statement by which the dump's own 'gosem.cut.vars' lays the variable. In a bare row this is a premise. The card (YtblmecpfokfjpaaDoorCards.lean) ties it to the program's text. -/
def laid_vernier_format_rows {H : Type} : DataW H := .agg [.agg [.lit (.int .i64 16), .lit (.int .i64 11), .lit (.int .i64 (-14)), .lit (.int .i64 15)], .agg [.lit (.int .i64 16), .lit (.int .i64 8), .lit (.int .i64 (-126)), .lit (.int .i64 127)], .agg [.lit (.int .i64 32), .lit (.int .i64 24), .lit (.int .i64 (-126)), .lit (.int .i64 127)], .agg [.lit (.int .i64 64), .lit (.int .i64 53), .lit (.int .i64 (-1022)), .lit (.int .i64 1023)]]
def laid_math_bits_deBruijn64tab {H : Type} : DataW H := .agg [.lit (.int .u8 0), .lit (.int .u8 1), .lit (.int .u8 56), .lit (.int .u8 2), .lit (.int .u8 57), .lit (.int .u8 49), .lit (.int .u8 28), .lit (.int .u8 3), .lit (.int .u8 61), .lit (.int .u8 58), .lit (.int .u8 42), .lit (.int .u8 50), .lit (.int .u8 38), .lit (.int .u8 29), .lit (.int .u8 17), .lit (.int .u8 4), .lit (.int .u8 62), .lit (.int .u8 47), .lit (.int .u8 59), .lit (.int .u8 36), .lit (.int .u8 45), .lit (.int .u8 43), .lit (.int .u8 51), .lit (.int .u8 22), .lit (.int .u8 53), .lit (.int .u8 39), .lit (.int .u8 33), .lit (.int .u8 30), .lit (.int .u8 24), .lit (.int .u8 18), .lit (.int .u8 12), .lit (.int .u8 5), .lit (.int .u8 63), .lit (.int .u8 55), .lit (.int .u8 48), .lit (.int .u8 27), .lit (.int .u8 60), .lit (.int .u8 41), .lit (.int .u8 37), .lit (.int .u8 16), .lit (.int .u8 46), .lit (.int .u8 35), .lit (.int .u8 44), .lit (.int .u8 21), .lit (.int .u8 52), .lit (.int .u8 32), .lit (.int .u8 23), .lit (.int .u8 11), .lit (.int .u8 54), .lit (.int .u8 26), .lit (.int .u8 40), .lit (.int .u8 15), .lit (.int .u8 34), .lit (.int .u8 20), .lit (.int .u8 31), .lit (.int .u8 10), .lit (.int .u8 25), .lit (.int .u8 14), .lit (.int .u8 19), .lit (.int .u8 9), .lit (.int .u8 13), .lit (.int .u8 8), .lit (.int .u8 7), .lit (.int .u8 6)]

/-- 'vernierlaw13.OrderMachine': WHATEVER THE INPUT: true; the input reads as it did. -/
def orderMachineSpec : ChangeSpec := { name := "orderMachine", fn := fun _ => fun
  | [d1, d2] => { results := [.lit (.bool true)], args := [d1, d2] }
  | _ => none }
def orderMachineRow : OpenClaim := { program := "ytblmecpfokfjpaadoor", sum := "17987e6d8523d7f95a1ed1be04957d27cabe2a06703eaddfd654081403933ccc", func := "vernier/vernierlaw13.OrderMachine", spec := "orderMachine", inPlace := ["math.Float64frombits", "math.Float32frombits"], unfollowed := true, recurses := true, named := ["vernier/format.rows"], apart := false, laid := [("vernier/format.rows", laid_vernier_format_rows)] }
def OrderMachineSaid : Prop := orderMachineRow.holds Tryd.pinned (OpenSpec.ofChange orderMachineSpec)

/-- ITS FALSE NEIGHBOUR: 'it returns false'. Refute it at one input. -/
def orderMachineWrong : ChangeSpec := { name := "orderMachine", fn := fun _ => fun
  | [d1, d2] => { results := [.lit (.bool false)], args := [d1, d2] }
  | _ => none }
def OrderMachineWrongFalsely : Prop := orderMachineRow.holds Tryd.pinned (OpenSpec.ofChange orderMachineWrong)

/-- 'vernierlaw06.AddsubMachine': WHATEVER THE INPUT: true; the input reads as it did. -/
def addsubMachineSpec : ChangeSpec := { name := "addsubMachine", fn := fun _ => fun
  | [d1, d2] => { results := [.lit (.bool true)], args := [d1, d2] }
  | _ => none }
def addsubMachineRow : OpenClaim := { program := "ytblmecpfokfjpaadoor", sum := "17987e6d8523d7f95a1ed1be04957d27cabe2a06703eaddfd654081403933ccc", func := "vernier/vernierlaw06.AddsubMachine", spec := "addsubMachine", inPlace := ["math/bits.Add64", "math/bits.Sub64", "math.Float64frombits", "math.Float64bits", "math.Float32frombits", "math.Float32bits"], unfollowed := true, recurses := true, named := ["vernier/format.rows", "math/bits.deBruijn64tab"], apart := false, laid := [("math/bits.deBruijn64tab", laid_math_bits_deBruijn64tab), ("vernier/format.rows", laid_vernier_format_rows)] }
def AddsubMachineSaid : Prop := addsubMachineRow.holds Tryd.pinned (OpenSpec.ofChange addsubMachineSpec)

/-- ITS FALSE NEIGHBOUR: 'it returns false'. Refute it at one input. -/
def addsubMachineWrong : ChangeSpec := { name := "addsubMachine", fn := fun _ => fun
  | [d1, d2] => { results := [.lit (.bool false)], args := [d1, d2] }
  | _ => none }
def AddsubMachineWrongFalsely : Prop := addsubMachineRow.holds Tryd.pinned (OpenSpec.ofChange addsubMachineWrong)

/-- 'vernierlaw13.OrderPowers': WHATEVER THE INPUT: true; the input reads as it did. -/
def orderPowersSpec : ChangeSpec := { name := "orderPowers", fn := fun _ => fun
  | [d] => { results := [.lit (.bool true)], args := [d] }
  | _ => none }
def orderPowersRow : OpenClaim := { program := "ytblmecpfokfjpaadoor", sum := "17987e6d8523d7f95a1ed1be04957d27cabe2a06703eaddfd654081403933ccc", func := "vernier/vernierlaw13.OrderPowers", spec := "orderPowers", inPlace := ["math/bits.Add64", "math/bits.Sub64"], unfollowed := true, recurses := true, named := ["vernier/format.rows", "math/bits.deBruijn64tab"], apart := false, laid := [("math/bits.deBruijn64tab", laid_math_bits_deBruijn64tab), ("vernier/format.rows", laid_vernier_format_rows)] }
def OrderPowersSaid : Prop := orderPowersRow.holds Tryd.pinned (OpenSpec.ofChange orderPowersSpec)

/-- ITS FALSE NEIGHBOUR: 'it returns false'. Refute it at one input. -/
def orderPowersWrong : ChangeSpec := { name := "orderPowers", fn := fun _ => fun
  | [d] => { results := [.lit (.bool false)], args := [d] }
  | _ => none }
def OrderPowersWrongFalsely : Prop := orderPowersRow.holds Tryd.pinned (OpenSpec.ofChange orderPowersWrong)

/-- 'vernierlaw10.RootRises': WHATEVER THE INPUT: true; the input reads as it did. -/
def rootRisesSpec : ChangeSpec := { name := "rootRises", fn := fun _ => fun
  | [d] => { results := [.lit (.bool true)], args := [d] }
  | _ => none }
def rootRisesRow : OpenClaim := { program := "ytblmecpfokfjpaadoor", sum := "17987e6d8523d7f95a1ed1be04957d27cabe2a06703eaddfd654081403933ccc", func := "vernier/vernierlaw10.RootRises", spec := "rootRises", inPlace := ["math/bits.Add64", "math/bits.Sub64"], unfollowed := true, recurses := true, named := ["vernier/format.rows", "math/bits.deBruijn64tab", "math/bits.divideError", "math/bits.overflowError"], apart := false, laid := [("math/bits.deBruijn64tab", laid_math_bits_deBruijn64tab), ("vernier/format.rows", laid_vernier_format_rows)] }
def RootRisesSaid : Prop := rootRisesRow.holds Tryd.pinned (OpenSpec.ofChange rootRisesSpec)

/-- ITS FALSE NEIGHBOUR: 'it returns false'. Refute it at one input. -/
def rootRisesWrong : ChangeSpec := { name := "rootRises", fn := fun _ => fun
  | [d] => { results := [.lit (.bool false)], args := [d] }
  | _ => none }
def RootRisesWrongFalsely : Prop := rootRisesRow.holds Tryd.pinned (OpenSpec.ofChange rootRisesWrong)

/-- 'vernierlaw10.RootBack': WHATEVER THE INPUT: true; the input reads as it did. -/
def rootBackSpec : ChangeSpec := { name := "rootBack", fn := fun _ => fun
  | [d1, d2, d3] => { results := [.lit (.bool true)], args := [d1, d2, d3] }
  | _ => none }
def rootBackRow : OpenClaim := { program := "ytblmecpfokfjpaadoor", sum := "17987e6d8523d7f95a1ed1be04957d27cabe2a06703eaddfd654081403933ccc", func := "vernier/vernierlaw10.RootBack", spec := "rootBack", inPlace := ["math/bits.Add64", "math/bits.Sub64"], unfollowed := true, recurses := true, named := ["vernier/format.rows", "math/bits.deBruijn64tab", "math/bits.divideError", "math/bits.overflowError"], apart := false, laid := [("math/bits.deBruijn64tab", laid_math_bits_deBruijn64tab), ("vernier/format.rows", laid_vernier_format_rows)] }
def RootBackSaid : Prop := rootBackRow.holds Tryd.pinned (OpenSpec.ofChange rootBackSpec)

/-- ITS FALSE NEIGHBOUR: 'it returns false'. Refute it at one input. -/
def rootBackWrong : ChangeSpec := { name := "rootBack", fn := fun _ => fun
  | [d1, d2, d3] => { results := [.lit (.bool false)], args := [d1, d2, d3] }
  | _ => none }
def RootBackWrongFalsely : Prop := rootBackRow.holds Tryd.pinned (OpenSpec.ofChange rootBackWrong)

/-- 'vernierlaw10.RootSquares': WHATEVER THE INPUT: true; the input reads as it did. -/
def rootSquaresSpec : ChangeSpec := { name := "rootSquares", fn := fun _ => fun
  | [d1, d2, d3] => { results := [.lit (.bool true)], args := [d1, d2, d3] }
  | _ => none }
def rootSquaresRow : OpenClaim := { program := "ytblmecpfokfjpaadoor", sum := "17987e6d8523d7f95a1ed1be04957d27cabe2a06703eaddfd654081403933ccc", func := "vernier/vernierlaw10.RootSquares", spec := "rootSquares", inPlace := ["math/bits.Add64", "math/bits.Sub64"], unfollowed := true, recurses := true, named := ["vernier/format.rows", "math/bits.deBruijn64tab", "math/bits.divideError", "math/bits.overflowError"], apart := false, laid := [("math/bits.deBruijn64tab", laid_math_bits_deBruijn64tab), ("vernier/format.rows", laid_vernier_format_rows)] }
def RootSquaresSaid : Prop := rootSquaresRow.holds Tryd.pinned (OpenSpec.ofChange rootSquaresSpec)

/-- ITS FALSE NEIGHBOUR: 'it returns false'. Refute it at one input. -/
def rootSquaresWrong : ChangeSpec := { name := "rootSquares", fn := fun _ => fun
  | [d1, d2, d3] => { results := [.lit (.bool false)], args := [d1, d2, d3] }
  | _ => none }
def RootSquaresWrongFalsely : Prop := rootSquaresRow.holds Tryd.pinned (OpenSpec.ofChange rootSquaresWrong)

/-- 'vernierlaw10.RootRecipSquares': WHATEVER THE INPUT: true; the input reads as it did. -/
def rootRecipSquaresSpec : ChangeSpec := { name := "rootRecipSquares", fn := fun _ => fun
  | [d1, d2, d3] => { results := [.lit (.bool true)], args := [d1, d2, d3] }
  | _ => none }
def rootRecipSquaresRow : OpenClaim := { program := "ytblmecpfokfjpaadoor", sum := "17987e6d8523d7f95a1ed1be04957d27cabe2a06703eaddfd654081403933ccc", func := "vernier/vernierlaw10.RootRecipSquares", spec := "rootRecipSquares", inPlace := ["math/bits.Add64", "math/bits.Sub64"], unfollowed := true, recurses := true, named := ["vernier/format.rows", "math/bits.deBruijn64tab", "math/bits.divideError", "math/bits.overflowError"], apart := false, laid := [("math/bits.deBruijn64tab", laid_math_bits_deBruijn64tab), ("vernier/format.rows", laid_vernier_format_rows)] }
def RootRecipSquaresSaid : Prop := rootRecipSquaresRow.holds Tryd.pinned (OpenSpec.ofChange rootRecipSquaresSpec)

/-- ITS FALSE NEIGHBOUR: 'it returns false'. Refute it at one input. -/
def rootRecipSquaresWrong : ChangeSpec := { name := "rootRecipSquares", fn := fun _ => fun
  | [d1, d2, d3] => { results := [.lit (.bool false)], args := [d1, d2, d3] }
  | _ => none }
def RootRecipSquaresWrongFalsely : Prop := rootRecipSquaresRow.holds Tryd.pinned (OpenSpec.ofChange rootRecipSquaresWrong)

/-- 'vernierlaw10.RootSides': WHATEVER THE INPUT: true; the input reads as it did. -/
def rootSidesSpec : ChangeSpec := { name := "rootSides", fn := fun _ => fun
  | [d] => { results := [.lit (.bool true)], args := [d] }
  | _ => none }
def rootSidesRow : OpenClaim := { program := "ytblmecpfokfjpaadoor", sum := "17987e6d8523d7f95a1ed1be04957d27cabe2a06703eaddfd654081403933ccc", func := "vernier/vernierlaw10.RootSides", spec := "rootSides", inPlace := ["math/bits.Add64", "math/bits.Sub64"], unfollowed := true, recurses := true, named := ["vernier/format.rows", "math/bits.deBruijn64tab", "math/bits.divideError", "math/bits.overflowError"], apart := false, laid := [("math/bits.deBruijn64tab", laid_math_bits_deBruijn64tab), ("vernier/format.rows", laid_vernier_format_rows)] }
def RootSidesSaid : Prop := rootSidesRow.holds Tryd.pinned (OpenSpec.ofChange rootSidesSpec)

/-- ITS FALSE NEIGHBOUR: 'it returns false'. Refute it at one input. -/
def rootSidesWrong : ChangeSpec := { name := "rootSides", fn := fun _ => fun
  | [d] => { results := [.lit (.bool false)], args := [d] }
  | _ => none }
def RootSidesWrongFalsely : Prop := rootSidesRow.holds Tryd.pinned (OpenSpec.ofChange rootSidesWrong)

/- THE SECOND FORM. 'bulk': how many values and letters a reading holds, each counted each time it is reached (what is shared counts as often as it is met; a slice's spare places count too). A statement '..UptoSaid' is the law's where the arguments, and the package variables that the reading takes, are together of bulk at most 1048576: NARROWER than '..Said'. Prove '..Said' where nothing that the law and all that it calls make is longer than what came in: it says more and counts as full. Else prove '..UptoSaid'. A law counts once. -/
mutual
def uptoBulk {H : Type} : DataW H → Nat
  | .lit (.string bytes) => bytes.length + 1
  | .lit _ => 1
  | .nil => 1
  | .ptr d => uptoBulk d + 1
  | .slice elems spare => uptoBulkAll elems + uptoBulkAll spare + 1
  | .agg parts => uptoBulkAll parts + 1
  | .iface _ d => uptoBulk d + 1
  | .map entries => uptoBulkEntries entries + 1
  | .held _ => 1
def uptoBulkAll {H : Type} : List (DataW H) → Nat
  | [] => 0
  | d :: r => uptoBulk d + uptoBulkAll r
def uptoBulkEntries {H : Type} : List (Lit × DataW H) → Nat
  | [] => 0
  | x :: r => uptoBulkEntry x + uptoBulkEntries r
def uptoBulkEntry {H : Type} : Lit × DataW H → Nat
  | (.string bytes, d) => bytes.length + uptoBulk d + 1
  | (_, d) => uptoBulk d + 1
 end
def uptoSmall : (H : Type) → List (DataW H) → Bool := fun _ ds => decide (uptoBulkAll ds ≤ 1048576)
def OpenSpec.upto (s : _root_.Go.ChangeSpec) : _root_.Go.OpenSpec := { _root_.Go.OpenSpec.ofChange s with cond := some uptoSmall }

/-- 'vernierlaw13.OrderMachine', WHERE WHAT IT READS IS OF BULK AT MOST 1048576: true; the input reads as it did. -/
def orderMachineUptoRow : OpenClaim := { program := "ytblmecpfokfjpaadoor", sum := "17987e6d8523d7f95a1ed1be04957d27cabe2a06703eaddfd654081403933ccc", func := "vernier/vernierlaw13.OrderMachine", spec := "orderMachine", inPlace := ["math.Float64frombits", "math.Float32frombits"], unfollowed := true, recurses := true, named := ["vernier/format.rows"], apart := false, laid := [("vernier/format.rows", laid_vernier_format_rows)], narrowed := true }
def OrderMachineUptoSaid : Prop := orderMachineUptoRow.holds Tryd.pinned (OpenSpec.upto orderMachineSpec)

/-- 'vernierlaw06.AddsubMachine', WHERE WHAT IT READS IS OF BULK AT MOST 1048576: true; the input reads as it did. -/
def addsubMachineUptoRow : OpenClaim := { program := "ytblmecpfokfjpaadoor", sum := "17987e6d8523d7f95a1ed1be04957d27cabe2a06703eaddfd654081403933ccc", func := "vernier/vernierlaw06.AddsubMachine", spec := "addsubMachine", inPlace := ["math/bits.Add64", "math/bits.Sub64", "math.Float64frombits", "math.Float64bits", "math.Float32frombits", "math.Float32bits"], unfollowed := true, recurses := true, named := ["vernier/format.rows", "math/bits.deBruijn64tab"], apart := false, laid := [("math/bits.deBruijn64tab", laid_math_bits_deBruijn64tab), ("vernier/format.rows", laid_vernier_format_rows)], narrowed := true }
def AddsubMachineUptoSaid : Prop := addsubMachineUptoRow.holds Tryd.pinned (OpenSpec.upto addsubMachineSpec)

/-- 'vernierlaw13.OrderPowers', WHERE WHAT IT READS IS OF BULK AT MOST 1048576: true; the input reads as it did. -/
def orderPowersUptoRow : OpenClaim := { program := "ytblmecpfokfjpaadoor", sum := "17987e6d8523d7f95a1ed1be04957d27cabe2a06703eaddfd654081403933ccc", func := "vernier/vernierlaw13.OrderPowers", spec := "orderPowers", inPlace := ["math/bits.Add64", "math/bits.Sub64"], unfollowed := true, recurses := true, named := ["vernier/format.rows", "math/bits.deBruijn64tab"], apart := false, laid := [("math/bits.deBruijn64tab", laid_math_bits_deBruijn64tab), ("vernier/format.rows", laid_vernier_format_rows)], narrowed := true }
def OrderPowersUptoSaid : Prop := orderPowersUptoRow.holds Tryd.pinned (OpenSpec.upto orderPowersSpec)

/-- 'vernierlaw10.RootRises', WHERE WHAT IT READS IS OF BULK AT MOST 1048576: true; the input reads as it did. -/
def rootRisesUptoRow : OpenClaim := { program := "ytblmecpfokfjpaadoor", sum := "17987e6d8523d7f95a1ed1be04957d27cabe2a06703eaddfd654081403933ccc", func := "vernier/vernierlaw10.RootRises", spec := "rootRises", inPlace := ["math/bits.Add64", "math/bits.Sub64"], unfollowed := true, recurses := true, named := ["vernier/format.rows", "math/bits.deBruijn64tab", "math/bits.divideError", "math/bits.overflowError"], apart := false, laid := [("math/bits.deBruijn64tab", laid_math_bits_deBruijn64tab), ("vernier/format.rows", laid_vernier_format_rows)], narrowed := true }
def RootRisesUptoSaid : Prop := rootRisesUptoRow.holds Tryd.pinned (OpenSpec.upto rootRisesSpec)

/-- 'vernierlaw10.RootBack', WHERE WHAT IT READS IS OF BULK AT MOST 1048576: true; the input reads as it did. -/
def rootBackUptoRow : OpenClaim := { program := "ytblmecpfokfjpaadoor", sum := "17987e6d8523d7f95a1ed1be04957d27cabe2a06703eaddfd654081403933ccc", func := "vernier/vernierlaw10.RootBack", spec := "rootBack", inPlace := ["math/bits.Add64", "math/bits.Sub64"], unfollowed := true, recurses := true, named := ["vernier/format.rows", "math/bits.deBruijn64tab", "math/bits.divideError", "math/bits.overflowError"], apart := false, laid := [("math/bits.deBruijn64tab", laid_math_bits_deBruijn64tab), ("vernier/format.rows", laid_vernier_format_rows)], narrowed := true }
def RootBackUptoSaid : Prop := rootBackUptoRow.holds Tryd.pinned (OpenSpec.upto rootBackSpec)

/-- 'vernierlaw10.RootSquares', WHERE WHAT IT READS IS OF BULK AT MOST 1048576: true; the input reads as it did. -/
def rootSquaresUptoRow : OpenClaim := { program := "ytblmecpfokfjpaadoor", sum := "17987e6d8523d7f95a1ed1be04957d27cabe2a06703eaddfd654081403933ccc", func := "vernier/vernierlaw10.RootSquares", spec := "rootSquares", inPlace := ["math/bits.Add64", "math/bits.Sub64"], unfollowed := true, recurses := true, named := ["vernier/format.rows", "math/bits.deBruijn64tab", "math/bits.divideError", "math/bits.overflowError"], apart := false, laid := [("math/bits.deBruijn64tab", laid_math_bits_deBruijn64tab), ("vernier/format.rows", laid_vernier_format_rows)], narrowed := true }
def RootSquaresUptoSaid : Prop := rootSquaresUptoRow.holds Tryd.pinned (OpenSpec.upto rootSquaresSpec)

/-- 'vernierlaw10.RootRecipSquares', WHERE WHAT IT READS IS OF BULK AT MOST 1048576: true; the input reads as it did. -/
def rootRecipSquaresUptoRow : OpenClaim := { program := "ytblmecpfokfjpaadoor", sum := "17987e6d8523d7f95a1ed1be04957d27cabe2a06703eaddfd654081403933ccc", func := "vernier/vernierlaw10.RootRecipSquares", spec := "rootRecipSquares", inPlace := ["math/bits.Add64", "math/bits.Sub64"], unfollowed := true, recurses := true, named := ["vernier/format.rows", "math/bits.deBruijn64tab", "math/bits.divideError", "math/bits.overflowError"], apart := false, laid := [("math/bits.deBruijn64tab", laid_math_bits_deBruijn64tab), ("vernier/format.rows", laid_vernier_format_rows)], narrowed := true }
def RootRecipSquaresUptoSaid : Prop := rootRecipSquaresUptoRow.holds Tryd.pinned (OpenSpec.upto rootRecipSquaresSpec)

/-- 'vernierlaw10.RootSides', WHERE WHAT IT READS IS OF BULK AT MOST 1048576: true; the input reads as it did. -/
def rootSidesUptoRow : OpenClaim := { program := "ytblmecpfokfjpaadoor", sum := "17987e6d8523d7f95a1ed1be04957d27cabe2a06703eaddfd654081403933ccc", func := "vernier/vernierlaw10.RootSides", spec := "rootSides", inPlace := ["math/bits.Add64", "math/bits.Sub64"], unfollowed := true, recurses := true, named := ["vernier/format.rows", "math/bits.deBruijn64tab", "math/bits.divideError", "math/bits.overflowError"], apart := false, laid := [("math/bits.deBruijn64tab", laid_math_bits_deBruijn64tab), ("vernier/format.rows", laid_vernier_format_rows)], narrowed := true }
def RootSidesUptoSaid : Prop := rootSidesUptoRow.holds Tryd.pinned (OpenSpec.upto rootSidesSpec)

end Rows
end Go.Proofs.YtblmecpfokfjpaaDoor
