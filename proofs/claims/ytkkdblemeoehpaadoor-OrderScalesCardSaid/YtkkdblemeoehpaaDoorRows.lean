/-
  NARROWER THAN 'FOR EVERY INPUT', by the rows' own cells (each row's printed sentence says how): OrderCompares: laid · OrderPicks: laid · OrderChain: laid · AddsubAlls: laid · AddsubLaws: laid · AddsubModes: laid · AddsubOrder: laid · OrderScales: laid · OrderNeighbours: laid · AddsubClose: laid · AddsubLayers: laid.
  DERIVED. THE GIVEN ROWS OF THIS SEAT. 11 by the template 'for every input the law returns true; each argument reads behind the call as it read before'; 0 by the template 'total and deterministic' (their statements: YtkkdblemeoehpaaDoorTotals.lean).
  GIVEN WITH THE SEED: the statements are not yours to turn. If you find one false, say at which input.
  Laid BY PROGRAM, IN A SANDBOX (cutbox-rows.mjs): the forced cells as the released guide's own fill.sh prints them over the translation 3c4180531fdbf31d… (all of the seat's roots in one cut). By AI agents, Wed Nov 11 2026. No macro, syntax, notation, axiom, sorry.
-/
import Derived.Test.YtkkdblemeoehpaaDoorChecked
import GoSem.Claim
import GoSem.ClaimJoined
import GoSem.ClaimMapViews
import Derived.JoinedTies
import Derived.KernelRfl
namespace Go.Proofs.YtkkdblemeoehpaaDoor
/- THE CELL 'sum', in the pinned program and in every row, IS THE sha256 OF THE DUMP (.gsa) THAT YtkkdblemeoehpaaDoorProg.lean LOADS. Nothing in Lean hashes anything: it is a label: what it is worth is what the hold of that sum in a sandbox is worth. -/
noncomputable def Tryd.pinned : Pinned := { name := "ytkkdblemeoehpaadoor", sum := "3c4180531fdbf31d21f91828a29470544df7c16c43dcaec73fef433922623b58", checked := Tryd.checked }
namespace Rows
def none {H : Type} : Left H := { results := [], args := [] }

/- WHAT THE LISTED PACKAGE-LEVEL VARIABLES READ AS WHEN THE CALL BEGINS. Each datum BY PROGRAM (the guide's laid-datum.mjs) off the statement by which the dump's own 'gosem.cut.vars' lays the variable. In a bare row this is a premise. The card (YtkkdblemeoehpaaDoorCards.lean) ties it to the program's text. -/
def laid_vernier_format_rows {H : Type} : DataW H := .agg [.agg [.lit (.int .i64 16), .lit (.int .i64 11), .lit (.int .i64 (-14)), .lit (.int .i64 15)], .agg [.lit (.int .i64 16), .lit (.int .i64 8), .lit (.int .i64 (-126)), .lit (.int .i64 127)], .agg [.lit (.int .i64 32), .lit (.int .i64 24), .lit (.int .i64 (-126)), .lit (.int .i64 127)], .agg [.lit (.int .i64 64), .lit (.int .i64 53), .lit (.int .i64 (-1022)), .lit (.int .i64 1023)]]
def laid_math_bits_deBruijn64tab {H : Type} : DataW H := .agg [.lit (.int .u8 0), .lit (.int .u8 1), .lit (.int .u8 56), .lit (.int .u8 2), .lit (.int .u8 57), .lit (.int .u8 49), .lit (.int .u8 28), .lit (.int .u8 3), .lit (.int .u8 61), .lit (.int .u8 58), .lit (.int .u8 42), .lit (.int .u8 50), .lit (.int .u8 38), .lit (.int .u8 29), .lit (.int .u8 17), .lit (.int .u8 4), .lit (.int .u8 62), .lit (.int .u8 47), .lit (.int .u8 59), .lit (.int .u8 36), .lit (.int .u8 45), .lit (.int .u8 43), .lit (.int .u8 51), .lit (.int .u8 22), .lit (.int .u8 53), .lit (.int .u8 39), .lit (.int .u8 33), .lit (.int .u8 30), .lit (.int .u8 24), .lit (.int .u8 18), .lit (.int .u8 12), .lit (.int .u8 5), .lit (.int .u8 63), .lit (.int .u8 55), .lit (.int .u8 48), .lit (.int .u8 27), .lit (.int .u8 60), .lit (.int .u8 41), .lit (.int .u8 37), .lit (.int .u8 16), .lit (.int .u8 46), .lit (.int .u8 35), .lit (.int .u8 44), .lit (.int .u8 21), .lit (.int .u8 52), .lit (.int .u8 32), .lit (.int .u8 23), .lit (.int .u8 11), .lit (.int .u8 54), .lit (.int .u8 26), .lit (.int .u8 40), .lit (.int .u8 15), .lit (.int .u8 34), .lit (.int .u8 20), .lit (.int .u8 31), .lit (.int .u8 10), .lit (.int .u8 25), .lit (.int .u8 14), .lit (.int .u8 19), .lit (.int .u8 9), .lit (.int .u8 13), .lit (.int .u8 8), .lit (.int .u8 7), .lit (.int .u8 6)]

/-- 'vernierlaw13.OrderCompares': WHATEVER THE INPUT: true; the input reads as it did. -/
def orderComparesSpec : ChangeSpec := { name := "orderCompares", fn := fun _ => fun
  | [d1, d2, d3] => { results := [.lit (.bool true)], args := [d1, d2, d3] }
  | _ => none }
def orderComparesRow : OpenClaim := { program := "ytkkdblemeoehpaadoor", sum := "3c4180531fdbf31d21f91828a29470544df7c16c43dcaec73fef433922623b58", func := "vernier/vernierlaw13.OrderCompares", spec := "orderCompares", unfollowed := true, recurses := true, named := ["vernier/format.rows"], apart := false, laid := [("vernier/format.rows", laid_vernier_format_rows)] }
def OrderComparesSaid : Prop := orderComparesRow.holds Tryd.pinned (OpenSpec.ofChange orderComparesSpec)

/-- ITS FALSE NEIGHBOUR: 'it returns false'. Refute it at one input. -/
def orderComparesWrong : ChangeSpec := { name := "orderCompares", fn := fun _ => fun
  | [d1, d2, d3] => { results := [.lit (.bool false)], args := [d1, d2, d3] }
  | _ => none }
def OrderComparesWrongFalsely : Prop := orderComparesRow.holds Tryd.pinned (OpenSpec.ofChange orderComparesWrong)

/-- 'vernierlaw13.OrderPicks': WHATEVER THE INPUT: true; the input reads as it did. -/
def orderPicksSpec : ChangeSpec := { name := "orderPicks", fn := fun _ => fun
  | [d1, d2, d3] => { results := [.lit (.bool true)], args := [d1, d2, d3] }
  | _ => none }
def orderPicksRow : OpenClaim := { program := "ytkkdblemeoehpaadoor", sum := "3c4180531fdbf31d21f91828a29470544df7c16c43dcaec73fef433922623b58", func := "vernier/vernierlaw13.OrderPicks", spec := "orderPicks", unfollowed := true, recurses := true, named := ["vernier/format.rows"], apart := false, laid := [("vernier/format.rows", laid_vernier_format_rows)] }
def OrderPicksSaid : Prop := orderPicksRow.holds Tryd.pinned (OpenSpec.ofChange orderPicksSpec)

/-- ITS FALSE NEIGHBOUR: 'it returns false'. Refute it at one input. -/
def orderPicksWrong : ChangeSpec := { name := "orderPicks", fn := fun _ => fun
  | [d1, d2, d3] => { results := [.lit (.bool false)], args := [d1, d2, d3] }
  | _ => none }
def OrderPicksWrongFalsely : Prop := orderPicksRow.holds Tryd.pinned (OpenSpec.ofChange orderPicksWrong)

/-- 'vernierlaw13.OrderChain': WHATEVER THE INPUT: true; the input reads as it did. -/
def orderChainSpec : ChangeSpec := { name := "orderChain", fn := fun _ => fun
  | [d] => { results := [.lit (.bool true)], args := [d] }
  | _ => none }
def orderChainRow : OpenClaim := { program := "ytkkdblemeoehpaadoor", sum := "3c4180531fdbf31d21f91828a29470544df7c16c43dcaec73fef433922623b58", func := "vernier/vernierlaw13.OrderChain", spec := "orderChain", unfollowed := true, recurses := true, named := ["vernier/format.rows"], apart := false, laid := [("vernier/format.rows", laid_vernier_format_rows)] }
def OrderChainSaid : Prop := orderChainRow.holds Tryd.pinned (OpenSpec.ofChange orderChainSpec)

/-- ITS FALSE NEIGHBOUR: 'it returns false'. Refute it at one input. -/
def orderChainWrong : ChangeSpec := { name := "orderChain", fn := fun _ => fun
  | [d] => { results := [.lit (.bool false)], args := [d] }
  | _ => none }
def OrderChainWrongFalsely : Prop := orderChainRow.holds Tryd.pinned (OpenSpec.ofChange orderChainWrong)

/-- 'vernierlaw06.AddsubAlls': WHATEVER THE INPUT: true; the input reads as it did. -/
def addsubAllsSpec : ChangeSpec := { name := "addsubAlls", fn := fun _ => fun
  | [d] => { results := [.lit (.bool true)], args := [d] }
  | _ => none }
def addsubAllsRow : OpenClaim := { program := "ytkkdblemeoehpaadoor", sum := "3c4180531fdbf31d21f91828a29470544df7c16c43dcaec73fef433922623b58", func := "vernier/vernierlaw06.AddsubAlls", spec := "addsubAlls", inPlace := ["math/bits.Add64", "math/bits.Sub64"], unfollowed := true, recurses := true, named := ["vernier/format.rows", "math/bits.deBruijn64tab"], apart := false, laid := [("math/bits.deBruijn64tab", laid_math_bits_deBruijn64tab), ("vernier/format.rows", laid_vernier_format_rows)] }
def AddsubAllsSaid : Prop := addsubAllsRow.holds Tryd.pinned (OpenSpec.ofChange addsubAllsSpec)

/-- ITS FALSE NEIGHBOUR: 'it returns false'. Refute it at one input. -/
def addsubAllsWrong : ChangeSpec := { name := "addsubAlls", fn := fun _ => fun
  | [d] => { results := [.lit (.bool false)], args := [d] }
  | _ => none }
def AddsubAllsWrongFalsely : Prop := addsubAllsRow.holds Tryd.pinned (OpenSpec.ofChange addsubAllsWrong)

/-- 'vernierlaw06.AddsubLaws': WHATEVER THE INPUT: true; the input reads as it did. -/
def addsubLawsSpec : ChangeSpec := { name := "addsubLaws", fn := fun _ => fun
  | [d] => { results := [.lit (.bool true)], args := [d] }
  | _ => none }
def addsubLawsRow : OpenClaim := { program := "ytkkdblemeoehpaadoor", sum := "3c4180531fdbf31d21f91828a29470544df7c16c43dcaec73fef433922623b58", func := "vernier/vernierlaw06.AddsubLaws", spec := "addsubLaws", inPlace := ["math/bits.Add64", "math/bits.Sub64"], unfollowed := true, recurses := true, named := ["vernier/format.rows", "math/bits.deBruijn64tab"], apart := false, laid := [("math/bits.deBruijn64tab", laid_math_bits_deBruijn64tab), ("vernier/format.rows", laid_vernier_format_rows)] }
def AddsubLawsSaid : Prop := addsubLawsRow.holds Tryd.pinned (OpenSpec.ofChange addsubLawsSpec)

/-- ITS FALSE NEIGHBOUR: 'it returns false'. Refute it at one input. -/
def addsubLawsWrong : ChangeSpec := { name := "addsubLaws", fn := fun _ => fun
  | [d] => { results := [.lit (.bool false)], args := [d] }
  | _ => none }
def AddsubLawsWrongFalsely : Prop := addsubLawsRow.holds Tryd.pinned (OpenSpec.ofChange addsubLawsWrong)

/-- 'vernierlaw06.AddsubModes': WHATEVER THE INPUT: true; the input reads as it did. -/
def addsubModesSpec : ChangeSpec := { name := "addsubModes", fn := fun _ => fun
  | [d] => { results := [.lit (.bool true)], args := [d] }
  | _ => none }
def addsubModesRow : OpenClaim := { program := "ytkkdblemeoehpaadoor", sum := "3c4180531fdbf31d21f91828a29470544df7c16c43dcaec73fef433922623b58", func := "vernier/vernierlaw06.AddsubModes", spec := "addsubModes", inPlace := ["math/bits.Add64", "math/bits.Sub64"], unfollowed := true, recurses := true, named := ["vernier/format.rows", "math/bits.deBruijn64tab"], apart := false, laid := [("math/bits.deBruijn64tab", laid_math_bits_deBruijn64tab), ("vernier/format.rows", laid_vernier_format_rows)] }
def AddsubModesSaid : Prop := addsubModesRow.holds Tryd.pinned (OpenSpec.ofChange addsubModesSpec)

/-- ITS FALSE NEIGHBOUR: 'it returns false'. Refute it at one input. -/
def addsubModesWrong : ChangeSpec := { name := "addsubModes", fn := fun _ => fun
  | [d] => { results := [.lit (.bool false)], args := [d] }
  | _ => none }
def AddsubModesWrongFalsely : Prop := addsubModesRow.holds Tryd.pinned (OpenSpec.ofChange addsubModesWrong)

/-- 'vernierlaw06.AddsubOrder': WHATEVER THE INPUT: true; the input reads as it did. -/
def addsubOrderSpec : ChangeSpec := { name := "addsubOrder", fn := fun _ => fun
  | [d] => { results := [.lit (.bool true)], args := [d] }
  | _ => none }
def addsubOrderRow : OpenClaim := { program := "ytkkdblemeoehpaadoor", sum := "3c4180531fdbf31d21f91828a29470544df7c16c43dcaec73fef433922623b58", func := "vernier/vernierlaw06.AddsubOrder", spec := "addsubOrder", inPlace := ["math/bits.Add64", "math/bits.Sub64"], unfollowed := true, recurses := true, named := ["vernier/format.rows", "math/bits.deBruijn64tab"], apart := false, laid := [("math/bits.deBruijn64tab", laid_math_bits_deBruijn64tab), ("vernier/format.rows", laid_vernier_format_rows)] }
def AddsubOrderSaid : Prop := addsubOrderRow.holds Tryd.pinned (OpenSpec.ofChange addsubOrderSpec)

/-- ITS FALSE NEIGHBOUR: 'it returns false'. Refute it at one input. -/
def addsubOrderWrong : ChangeSpec := { name := "addsubOrder", fn := fun _ => fun
  | [d] => { results := [.lit (.bool false)], args := [d] }
  | _ => none }
def AddsubOrderWrongFalsely : Prop := addsubOrderRow.holds Tryd.pinned (OpenSpec.ofChange addsubOrderWrong)

/-- 'vernierlaw13.OrderScales': WHATEVER THE INPUT: true; the input reads as it did. -/
def orderScalesSpec : ChangeSpec := { name := "orderScales", fn := fun _ => fun
  | [d] => { results := [.lit (.bool true)], args := [d] }
  | _ => none }
def orderScalesRow : OpenClaim := { program := "ytkkdblemeoehpaadoor", sum := "3c4180531fdbf31d21f91828a29470544df7c16c43dcaec73fef433922623b58", func := "vernier/vernierlaw13.OrderScales", spec := "orderScales", inPlace := ["math/bits.Add64"], unfollowed := true, recurses := true, named := ["vernier/format.rows", "math/bits.deBruijn64tab"], apart := false, laid := [("math/bits.deBruijn64tab", laid_math_bits_deBruijn64tab), ("vernier/format.rows", laid_vernier_format_rows)] }
def OrderScalesSaid : Prop := orderScalesRow.holds Tryd.pinned (OpenSpec.ofChange orderScalesSpec)

/-- ITS FALSE NEIGHBOUR: 'it returns false'. Refute it at one input. -/
def orderScalesWrong : ChangeSpec := { name := "orderScales", fn := fun _ => fun
  | [d] => { results := [.lit (.bool false)], args := [d] }
  | _ => none }
def OrderScalesWrongFalsely : Prop := orderScalesRow.holds Tryd.pinned (OpenSpec.ofChange orderScalesWrong)

/-- 'vernierlaw13.OrderNeighbours': WHATEVER THE INPUT: true; the input reads as it did. -/
def orderNeighboursSpec : ChangeSpec := { name := "orderNeighbours", fn := fun _ => fun
  | [d1, d2] => { results := [.lit (.bool true)], args := [d1, d2] }
  | _ => none }
def orderNeighboursRow : OpenClaim := { program := "ytkkdblemeoehpaadoor", sum := "3c4180531fdbf31d21f91828a29470544df7c16c43dcaec73fef433922623b58", func := "vernier/vernierlaw13.OrderNeighbours", spec := "orderNeighbours", inPlace := ["math/bits.Add64", "math/bits.Sub64"], unfollowed := true, recurses := true, named := ["vernier/format.rows", "math/bits.deBruijn64tab"], apart := false, laid := [("math/bits.deBruijn64tab", laid_math_bits_deBruijn64tab), ("vernier/format.rows", laid_vernier_format_rows)] }
def OrderNeighboursSaid : Prop := orderNeighboursRow.holds Tryd.pinned (OpenSpec.ofChange orderNeighboursSpec)

/-- ITS FALSE NEIGHBOUR: 'it returns false'. Refute it at one input. -/
def orderNeighboursWrong : ChangeSpec := { name := "orderNeighbours", fn := fun _ => fun
  | [d1, d2] => { results := [.lit (.bool false)], args := [d1, d2] }
  | _ => none }
def OrderNeighboursWrongFalsely : Prop := orderNeighboursRow.holds Tryd.pinned (OpenSpec.ofChange orderNeighboursWrong)

/-- 'vernierlaw06.AddsubClose': WHATEVER THE INPUT: true; the input reads as it did. -/
def addsubCloseSpec : ChangeSpec := { name := "addsubClose", fn := fun _ => fun
  | [d] => { results := [.lit (.bool true)], args := [d] }
  | _ => none }
def addsubCloseRow : OpenClaim := { program := "ytkkdblemeoehpaadoor", sum := "3c4180531fdbf31d21f91828a29470544df7c16c43dcaec73fef433922623b58", func := "vernier/vernierlaw06.AddsubClose", spec := "addsubClose", inPlace := ["math/bits.Add64", "math/bits.Sub64"], unfollowed := true, recurses := true, named := ["vernier/format.rows", "math/bits.deBruijn64tab"], apart := false, laid := [("math/bits.deBruijn64tab", laid_math_bits_deBruijn64tab), ("vernier/format.rows", laid_vernier_format_rows)] }
def AddsubCloseSaid : Prop := addsubCloseRow.holds Tryd.pinned (OpenSpec.ofChange addsubCloseSpec)

/-- ITS FALSE NEIGHBOUR: 'it returns false'. Refute it at one input. -/
def addsubCloseWrong : ChangeSpec := { name := "addsubClose", fn := fun _ => fun
  | [d] => { results := [.lit (.bool false)], args := [d] }
  | _ => none }
def AddsubCloseWrongFalsely : Prop := addsubCloseRow.holds Tryd.pinned (OpenSpec.ofChange addsubCloseWrong)

/-- 'vernierlaw06.AddsubLayers': WHATEVER THE INPUT: true; the input reads as it did. -/
def addsubLayersSpec : ChangeSpec := { name := "addsubLayers", fn := fun _ => fun
  | [d] => { results := [.lit (.bool true)], args := [d] }
  | _ => none }
def addsubLayersRow : OpenClaim := { program := "ytkkdblemeoehpaadoor", sum := "3c4180531fdbf31d21f91828a29470544df7c16c43dcaec73fef433922623b58", func := "vernier/vernierlaw06.AddsubLayers", spec := "addsubLayers", inPlace := ["math/bits.Add64", "math/bits.Sub64"], unfollowed := true, recurses := true, named := ["vernier/format.rows", "math/bits.deBruijn64tab"], apart := false, laid := [("math/bits.deBruijn64tab", laid_math_bits_deBruijn64tab), ("vernier/format.rows", laid_vernier_format_rows)] }
def AddsubLayersSaid : Prop := addsubLayersRow.holds Tryd.pinned (OpenSpec.ofChange addsubLayersSpec)

/-- ITS FALSE NEIGHBOUR: 'it returns false'. Refute it at one input. -/
def addsubLayersWrong : ChangeSpec := { name := "addsubLayers", fn := fun _ => fun
  | [d] => { results := [.lit (.bool false)], args := [d] }
  | _ => none }
def AddsubLayersWrongFalsely : Prop := addsubLayersRow.holds Tryd.pinned (OpenSpec.ofChange addsubLayersWrong)

/- THE SECOND FORM. 'bulk': how many values and letters a reading holds, each counted each time it is reached (what is shared counts as often as it is met; a slice's spare places count too). A statement '..UptoSaid' is the law's where the arguments, and the package variables that the reading takes, are together of bulk at most 1048576: NARROWER than '..Said'. Prove '..Said' where nothing that the law and all that it calls make is longer than what came in: it says more and counts as full. Else prove '..UptoSaid'. A law counts once. -/
mutual
def uptoBulk {H : Type} : DataW H → Nat
  | .lit (.string bytes) => bytes.length + 1
  | .lit _ => 1
  | .nil => 1
  | .ptr d => uptoBulk d + 1
  | .slice elems spare => uptoBulkAll elems + uptoBulkAll spare + 1
  | .agg parts => uptoBulkAll parts + 1
  | .iface _ d => uptoBulk d + 1
  | .map entries => uptoBulkEntries entries + 1
  | .held _ => 1
def uptoBulkAll {H : Type} : List (DataW H) → Nat
  | [] => 0
  | d :: r => uptoBulk d + uptoBulkAll r
def uptoBulkEntries {H : Type} : List (Lit × DataW H) → Nat
  | [] => 0
  | x :: r => uptoBulkEntry x + uptoBulkEntries r
def uptoBulkEntry {H : Type} : Lit × DataW H → Nat
  | (.string bytes, d) => bytes.length + uptoBulk d + 1
  | (_, d) => uptoBulk d + 1
 end
def uptoSmall : (H : Type) → List (DataW H) → Bool := fun _ ds => decide (uptoBulkAll ds ≤ 1048576)
def OpenSpec.upto (s : _root_.Go.ChangeSpec) : _root_.Go.OpenSpec := { _root_.Go.OpenSpec.ofChange s with cond := some uptoSmall }

/-- 'vernierlaw13.OrderCompares', WHERE WHAT IT READS IS OF BULK AT MOST 1048576: true; the input reads as it did. -/
def orderComparesUptoRow : OpenClaim := { program := "ytkkdblemeoehpaadoor", sum := "3c4180531fdbf31d21f91828a29470544df7c16c43dcaec73fef433922623b58", func := "vernier/vernierlaw13.OrderCompares", spec := "orderCompares", unfollowed := true, recurses := true, named := ["vernier/format.rows"], apart := false, laid := [("vernier/format.rows", laid_vernier_format_rows)], narrowed := true }
def OrderComparesUptoSaid : Prop := orderComparesUptoRow.holds Tryd.pinned (OpenSpec.upto orderComparesSpec)

/-- 'vernierlaw13.OrderPicks', WHERE WHAT IT READS IS OF BULK AT MOST 1048576: true; the input reads as it did. -/
def orderPicksUptoRow : OpenClaim := { program := "ytkkdblemeoehpaadoor", sum := "3c4180531fdbf31d21f91828a29470544df7c16c43dcaec73fef433922623b58", func := "vernier/vernierlaw13.OrderPicks", spec := "orderPicks", unfollowed := true, recurses := true, named := ["vernier/format.rows"], apart := false, laid := [("vernier/format.rows", laid_vernier_format_rows)], narrowed := true }
def OrderPicksUptoSaid : Prop := orderPicksUptoRow.holds Tryd.pinned (OpenSpec.upto orderPicksSpec)

/-- 'vernierlaw13.OrderChain', WHERE WHAT IT READS IS OF BULK AT MOST 1048576: true; the input reads as it did. -/
def orderChainUptoRow : OpenClaim := { program := "ytkkdblemeoehpaadoor", sum := "3c4180531fdbf31d21f91828a29470544df7c16c43dcaec73fef433922623b58", func := "vernier/vernierlaw13.OrderChain", spec := "orderChain", unfollowed := true, recurses := true, named := ["vernier/format.rows"], apart := false, laid := [("vernier/format.rows", laid_vernier_format_rows)], narrowed := true }
def OrderChainUptoSaid : Prop := orderChainUptoRow.holds Tryd.pinned (OpenSpec.upto orderChainSpec)

/-- 'vernierlaw06.AddsubAlls', WHERE WHAT IT READS IS OF BULK AT MOST 1048576: true; the input reads as it did. -/
def addsubAllsUptoRow : OpenClaim := { program := "ytkkdblemeoehpaadoor", sum := "3c4180531fdbf31d21f91828a29470544df7c16c43dcaec73fef433922623b58", func := "vernier/vernierlaw06.AddsubAlls", spec := "addsubAlls", inPlace := ["math/bits.Add64", "math/bits.Sub64"], unfollowed := true, recurses := true, named := ["vernier/format.rows", "math/bits.deBruijn64tab"], apart := false, laid := [("math/bits.deBruijn64tab", laid_math_bits_deBruijn64tab), ("vernier/format.rows", laid_vernier_format_rows)], narrowed := true }
def AddsubAllsUptoSaid : Prop := addsubAllsUptoRow.holds Tryd.pinned (OpenSpec.upto addsubAllsSpec)

/-- 'vernierlaw06.AddsubLaws', WHERE WHAT IT READS IS OF BULK AT MOST 1048576: true; the input reads as it did. -/
def addsubLawsUptoRow : OpenClaim := { program := "ytkkdblemeoehpaadoor", sum := "3c4180531fdbf31d21f91828a29470544df7c16c43dcaec73fef433922623b58", func := "vernier/vernierlaw06.AddsubLaws", spec := "addsubLaws", inPlace := ["math/bits.Add64", "math/bits.Sub64"], unfollowed := true, recurses := true, named := ["vernier/format.rows", "math/bits.deBruijn64tab"], apart := false, laid := [("math/bits.deBruijn64tab", laid_math_bits_deBruijn64tab), ("vernier/format.rows", laid_vernier_format_rows)], narrowed := true }
def AddsubLawsUptoSaid : Prop := addsubLawsUptoRow.holds Tryd.pinned (OpenSpec.upto addsubLawsSpec)

/-- 'vernierlaw06.AddsubModes', WHERE WHAT IT READS IS OF BULK AT MOST 1048576: true; the input reads as it did. -/
def addsubModesUptoRow : OpenClaim := { program := "ytkkdblemeoehpaadoor", sum := "3c4180531fdbf31d21f91828a29470544df7c16c43dcaec73fef433922623b58", func := "vernier/vernierlaw06.AddsubModes", spec := "addsubModes", inPlace := ["math/bits.Add64", "math/bits.Sub64"], unfollowed := true, recurses := true, named := ["vernier/format.rows", "math/bits.deBruijn64tab"], apart := false, laid := [("math/bits.deBruijn64tab", laid_math_bits_deBruijn64tab), ("vernier/format.rows", laid_vernier_format_rows)], narrowed := true }
def AddsubModesUptoSaid : Prop := addsubModesUptoRow.holds Tryd.pinned (OpenSpec.upto addsubModesSpec)

/-- 'vernierlaw06.AddsubOrder', WHERE WHAT IT READS IS OF BULK AT MOST 1048576: true; the input reads as it did. -/
def addsubOrderUptoRow : OpenClaim := { program := "ytkkdblemeoehpaadoor", sum := "3c4180531fdbf31d21f91828a29470544df7c16c43dcaec73fef433922623b58", func := "vernier/vernierlaw06.AddsubOrder", spec := "addsubOrder", inPlace := ["math/bits.Add64", "math/bits.Sub64"], unfollowed := true, recurses := true, named := ["vernier/format.rows", "math/bits.deBruijn64tab"], apart := false, laid := [("math/bits.deBruijn64tab", laid_math_bits_deBruijn64tab), ("vernier/format.rows", laid_vernier_format_rows)], narrowed := true }
def AddsubOrderUptoSaid : Prop := addsubOrderUptoRow.holds Tryd.pinned (OpenSpec.upto addsubOrderSpec)

/-- 'vernierlaw13.OrderScales', WHERE WHAT IT READS IS OF BULK AT MOST 1048576: true; the input reads as it did. -/
def orderScalesUptoRow : OpenClaim := { program := "ytkkdblemeoehpaadoor", sum := "3c4180531fdbf31d21f91828a29470544df7c16c43dcaec73fef433922623b58", func := "vernier/vernierlaw13.OrderScales", spec := "orderScales", inPlace := ["math/bits.Add64"], unfollowed := true, recurses := true, named := ["vernier/format.rows", "math/bits.deBruijn64tab"], apart := false, laid := [("math/bits.deBruijn64tab", laid_math_bits_deBruijn64tab), ("vernier/format.rows", laid_vernier_format_rows)], narrowed := true }
def OrderScalesUptoSaid : Prop := orderScalesUptoRow.holds Tryd.pinned (OpenSpec.upto orderScalesSpec)

/-- 'vernierlaw13.OrderNeighbours', WHERE WHAT IT READS IS OF BULK AT MOST 1048576: true; the input reads as it did. -/
def orderNeighboursUptoRow : OpenClaim := { program := "ytkkdblemeoehpaadoor", sum := "3c4180531fdbf31d21f91828a29470544df7c16c43dcaec73fef433922623b58", func := "vernier/vernierlaw13.OrderNeighbours", spec := "orderNeighbours", inPlace := ["math/bits.Add64", "math/bits.Sub64"], unfollowed := true, recurses := true, named := ["vernier/format.rows", "math/bits.deBruijn64tab"], apart := false, laid := [("math/bits.deBruijn64tab", laid_math_bits_deBruijn64tab), ("vernier/format.rows", laid_vernier_format_rows)], narrowed := true }
def OrderNeighboursUptoSaid : Prop := orderNeighboursUptoRow.holds Tryd.pinned (OpenSpec.upto orderNeighboursSpec)

/-- 'vernierlaw06.AddsubClose', WHERE WHAT IT READS IS OF BULK AT MOST 1048576: true; the input reads as it did. -/
def addsubCloseUptoRow : OpenClaim := { program := "ytkkdblemeoehpaadoor", sum := "3c4180531fdbf31d21f91828a29470544df7c16c43dcaec73fef433922623b58", func := "vernier/vernierlaw06.AddsubClose", spec := "addsubClose", inPlace := ["math/bits.Add64", "math/bits.Sub64"], unfollowed := true, recurses := true, named := ["vernier/format.rows", "math/bits.deBruijn64tab"], apart := false, laid := [("math/bits.deBruijn64tab", laid_math_bits_deBruijn64tab), ("vernier/format.rows", laid_vernier_format_rows)], narrowed := true }
def AddsubCloseUptoSaid : Prop := addsubCloseUptoRow.holds Tryd.pinned (OpenSpec.upto addsubCloseSpec)

/-- 'vernierlaw06.AddsubLayers', WHERE WHAT IT READS IS OF BULK AT MOST 1048576: true; the input reads as it did. -/
def addsubLayersUptoRow : OpenClaim := { program := "ytkkdblemeoehpaadoor", sum := "3c4180531fdbf31d21f91828a29470544df7c16c43dcaec73fef433922623b58", func := "vernier/vernierlaw06.AddsubLayers", spec := "addsubLayers", inPlace := ["math/bits.Add64", "math/bits.Sub64"], unfollowed := true, recurses := true, named := ["vernier/format.rows", "math/bits.deBruijn64tab"], apart := false, laid := [("math/bits.deBruijn64tab", laid_math_bits_deBruijn64tab), ("vernier/format.rows", laid_vernier_format_rows)], narrowed := true }
def AddsubLayersUptoSaid : Prop := addsubLayersUptoRow.holds Tryd.pinned (OpenSpec.upto addsubLayersSpec)

end Rows
end Go.Proofs.YtkkdblemeoehpaaDoor
