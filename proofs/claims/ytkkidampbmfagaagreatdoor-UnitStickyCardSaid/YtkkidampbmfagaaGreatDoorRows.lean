/-
  NARROWER THAN 'FOR EVERY INPUT', by the rows' own cells (each row's printed sentence says how): MetalUnit: laid · WholeMetal: laid · UnitLayers: laid · UnitTraps: laid · UnitModes: laid · UnitMachine: laid · UnitRuns: laid · UnitSticky: laid · UnitPlays: laid.
  DERIVED. THE GIVEN ROWS OF THIS SEAT. 9 by the template 'for every input the law returns true; each argument reads behind the call as it read before'; 0 by the template 'total and deterministic' (their statements: YtkkidampbmfagaaGreatDoorTotals.lean).
  GIVEN WITH THE SEED: the statements are not yours to turn. If you find one false, say at which input.
  Laid BY PROGRAM, IN A SANDBOX (cutbox-rows.mjs): the forced cells as the released guide's own fill.sh prints them over the translation 0fc8b58239f08bb0… (all of the seat's roots in one cut). By AI agents, Wed Nov 11 2026. No macro, syntax, notation, axiom, sorry.
-/
import Derived.Test.YtkkidampbmfagaaGreatDoorChecked
import GoSem.Claim
import GoSem.ClaimJoined
import GoSem.ClaimMapViews
import Derived.JoinedTies
import Derived.KernelRfl
namespace Go.Proofs.YtkkidampbmfagaaGreatDoor
/- THE CELL 'sum', in the pinned program and in every row, IS THE sha256 OF THE DUMP (.gsa) THAT YtkkidampbmfagaaGreatDoorProg.lean LOADS. Nothing in Lean hashes anything: it is a label: what it is worth is what the hold of that sum in a sandbox is worth. -/
noncomputable def Tryz.pinned : Pinned := { name := "ytkkidampbmfagaagreatdoor", sum := "0fc8b58239f08bb09124b23b1bab199d86a0c80621ac28c3454ce81b391cde1f", checked := Tryz.checked }
namespace Rows
def none {H : Type} : Left H := { results := [], args := [] }

/- WHAT THE LISTED PACKAGE-LEVEL VARIABLES READ AS WHEN THE CALL BEGINS. Each datum BY PROGRAM (the guide's laid-datum.mjs) off the statement by which the dump's own 'gosem.cut.vars' lays the variable. In a bare row this is a premise. The card (YtkkidampbmfagaaGreatDoorCards.lean) ties it to the program's text. -/
def laid_math_bits_deBruijn64tab {H : Type} : DataW H := .agg [.lit (.int .u8 0), .lit (.int .u8 1), .lit (.int .u8 56), .lit (.int .u8 2), .lit (.int .u8 57), .lit (.int .u8 49), .lit (.int .u8 28), .lit (.int .u8 3), .lit (.int .u8 61), .lit (.int .u8 58), .lit (.int .u8 42), .lit (.int .u8 50), .lit (.int .u8 38), .lit (.int .u8 29), .lit (.int .u8 17), .lit (.int .u8 4), .lit (.int .u8 62), .lit (.int .u8 47), .lit (.int .u8 59), .lit (.int .u8 36), .lit (.int .u8 45), .lit (.int .u8 43), .lit (.int .u8 51), .lit (.int .u8 22), .lit (.int .u8 53), .lit (.int .u8 39), .lit (.int .u8 33), .lit (.int .u8 30), .lit (.int .u8 24), .lit (.int .u8 18), .lit (.int .u8 12), .lit (.int .u8 5), .lit (.int .u8 63), .lit (.int .u8 55), .lit (.int .u8 48), .lit (.int .u8 27), .lit (.int .u8 60), .lit (.int .u8 41), .lit (.int .u8 37), .lit (.int .u8 16), .lit (.int .u8 46), .lit (.int .u8 35), .lit (.int .u8 44), .lit (.int .u8 21), .lit (.int .u8 52), .lit (.int .u8 32), .lit (.int .u8 23), .lit (.int .u8 11), .lit (.int .u8 54), .lit (.int .u8 26), .lit (.int .u8 40), .lit (.int .u8 15), .lit (.int .u8 34), .lit (.int .u8 20), .lit (.int .u8 31), .lit (.int .u8 10), .lit (.int .u8 25), .lit (.int .u8 14), .lit (.int .u8 19), .lit (.int .u8 9), .lit (.int .u8 13), .lit (.int .u8 8), .lit (.int .u8 7), .lit (.int .u8 6)]
def laid_vernier_format_rows {H : Type} : DataW H := .agg [.agg [.lit (.int .i64 16), .lit (.int .i64 11), .lit (.int .i64 (-14)), .lit (.int .i64 15)], .agg [.lit (.int .i64 16), .lit (.int .i64 8), .lit (.int .i64 (-126)), .lit (.int .i64 127)], .agg [.lit (.int .i64 32), .lit (.int .i64 24), .lit (.int .i64 (-126)), .lit (.int .i64 127)], .agg [.lit (.int .i64 64), .lit (.int .i64 53), .lit (.int .i64 (-1022)), .lit (.int .i64 1023)]]
def laid_vernier_whole_kinds {H : Type} : DataW H := .agg [.agg [.lit (.int .u64 2147483648), .lit (.int .u64 2147483647)], .agg [.lit (.int .u64 9223372036854775808), .lit (.int .u64 9223372036854775807)], .agg [.lit (.int .u64 0), .lit (.int .u64 4294967295)], .agg [.lit (.int .u64 0), .lit (.int .u64 18446744073709551615)]]

/-- 'vernierlaw17.MetalUnit': WHATEVER THE INPUT: true; the input reads as it did. -/
def metalUnitSpec : ChangeSpec := { name := "metalUnit", fn := fun _ => fun
  | [d1, d2, d3] => { results := [.lit (.bool true)], args := [d1, d2, d3] }
  | _ => none }
def metalUnitRow : OpenClaim := { program := "ytkkidampbmfagaagreatdoor", sum := "0fc8b58239f08bb09124b23b1bab199d86a0c80621ac28c3454ce81b391cde1f", func := "vernier/vernierlaw17.MetalUnit", spec := "metalUnit", inPlace := ["math/bits.Add64", "math/bits.Sub64", "math.Float64bits", "math.Float64frombits"], unfollowed := true, recurses := true, named := ["vernier/format.rows", "math/bits.deBruijn64tab", "math/bits.divideError", "math/bits.overflowError", "vernier/whole.kinds"], apart := false, laid := [("math/bits.deBruijn64tab", laid_math_bits_deBruijn64tab), ("vernier/format.rows", laid_vernier_format_rows), ("vernier/whole.kinds", laid_vernier_whole_kinds)] }
def MetalUnitSaid : Prop := metalUnitRow.holds Tryz.pinned (OpenSpec.ofChange metalUnitSpec)

/-- ITS FALSE NEIGHBOUR: 'it returns false'. Refute it at one input. -/
def metalUnitWrong : ChangeSpec := { name := "metalUnit", fn := fun _ => fun
  | [d1, d2, d3] => { results := [.lit (.bool false)], args := [d1, d2, d3] }
  | _ => none }
def MetalUnitWrongFalsely : Prop := metalUnitRow.holds Tryz.pinned (OpenSpec.ofChange metalUnitWrong)

/-- 'verniertop.WholeMetal': WHATEVER THE INPUT: true; the input reads as it did. -/
def wholeMetalSpec : ChangeSpec := { name := "wholeMetal", fn := fun _ => fun
  | [d] => { results := [.lit (.bool true)], args := [d] }
  | _ => none }
def wholeMetalRow : OpenClaim := { program := "ytkkidampbmfagaagreatdoor", sum := "0fc8b58239f08bb09124b23b1bab199d86a0c80621ac28c3454ce81b391cde1f", func := "vernier/verniertop.WholeMetal", spec := "wholeMetal", inPlace := ["math/bits.Add64", "math/bits.Sub64"], unfollowed := true, recurses := true, named := ["vernier/format.rows", "math/bits.deBruijn64tab", "math/bits.divideError", "math/bits.overflowError"], apart := false, laid := [("math/bits.deBruijn64tab", laid_math_bits_deBruijn64tab), ("vernier/format.rows", laid_vernier_format_rows)] }
def WholeMetalSaid : Prop := wholeMetalRow.holds Tryz.pinned (OpenSpec.ofChange wholeMetalSpec)

/-- ITS FALSE NEIGHBOUR: 'it returns false'. Refute it at one input. -/
def wholeMetalWrong : ChangeSpec := { name := "wholeMetal", fn := fun _ => fun
  | [d] => { results := [.lit (.bool false)], args := [d] }
  | _ => none }
def WholeMetalWrongFalsely : Prop := wholeMetalRow.holds Tryz.pinned (OpenSpec.ofChange wholeMetalWrong)

/-- 'vernierlaw19.UnitLayers': WHATEVER THE INPUT: true; the input reads as it did. -/
def unitLayersSpec : ChangeSpec := { name := "unitLayers", fn := fun _ => fun
  | [d] => { results := [.lit (.bool true)], args := [d] }
  | _ => none }
def unitLayersRow : OpenClaim := { program := "ytkkidampbmfagaagreatdoor", sum := "0fc8b58239f08bb09124b23b1bab199d86a0c80621ac28c3454ce81b391cde1f", func := "vernier/vernierlaw19.UnitLayers", spec := "unitLayers", inPlace := ["math/bits.Add64", "math/bits.Sub64"], unfollowed := true, recurses := true, named := ["vernier/format.rows", "math/bits.deBruijn64tab", "math/bits.divideError", "math/bits.overflowError", "vernier/whole.kinds"], apart := false, laid := [("math/bits.deBruijn64tab", laid_math_bits_deBruijn64tab), ("vernier/format.rows", laid_vernier_format_rows), ("vernier/whole.kinds", laid_vernier_whole_kinds)] }
def UnitLayersSaid : Prop := unitLayersRow.holds Tryz.pinned (OpenSpec.ofChange unitLayersSpec)

/-- ITS FALSE NEIGHBOUR: 'it returns false'. Refute it at one input. -/
def unitLayersWrong : ChangeSpec := { name := "unitLayers", fn := fun _ => fun
  | [d] => { results := [.lit (.bool false)], args := [d] }
  | _ => none }
def UnitLayersWrongFalsely : Prop := unitLayersRow.holds Tryz.pinned (OpenSpec.ofChange unitLayersWrong)

/-- 'vernierlaw19.UnitTraps': WHATEVER THE INPUT: true; the input reads as it did. -/
def unitTrapsSpec : ChangeSpec := { name := "unitTraps", fn := fun _ => fun
  | [d] => { results := [.lit (.bool true)], args := [d] }
  | _ => none }
def unitTrapsRow : OpenClaim := { program := "ytkkidampbmfagaagreatdoor", sum := "0fc8b58239f08bb09124b23b1bab199d86a0c80621ac28c3454ce81b391cde1f", func := "vernier/vernierlaw19.UnitTraps", spec := "unitTraps", inPlace := ["math/bits.Add64", "math/bits.Sub64"], unfollowed := true, recurses := true, named := ["vernier/format.rows", "math/bits.deBruijn64tab", "math/bits.divideError", "math/bits.overflowError", "vernier/whole.kinds"], apart := false, laid := [("math/bits.deBruijn64tab", laid_math_bits_deBruijn64tab), ("vernier/format.rows", laid_vernier_format_rows), ("vernier/whole.kinds", laid_vernier_whole_kinds)] }
def UnitTrapsSaid : Prop := unitTrapsRow.holds Tryz.pinned (OpenSpec.ofChange unitTrapsSpec)

/-- ITS FALSE NEIGHBOUR: 'it returns false'. Refute it at one input. -/
def unitTrapsWrong : ChangeSpec := { name := "unitTraps", fn := fun _ => fun
  | [d] => { results := [.lit (.bool false)], args := [d] }
  | _ => none }
def UnitTrapsWrongFalsely : Prop := unitTrapsRow.holds Tryz.pinned (OpenSpec.ofChange unitTrapsWrong)

/-- 'vernierlaw19.UnitModes': WHATEVER THE INPUT: true; the input reads as it did. -/
def unitModesSpec : ChangeSpec := { name := "unitModes", fn := fun _ => fun
  | [d1, d2] => { results := [.lit (.bool true)], args := [d1, d2] }
  | _ => none }
def unitModesRow : OpenClaim := { program := "ytkkidampbmfagaagreatdoor", sum := "0fc8b58239f08bb09124b23b1bab199d86a0c80621ac28c3454ce81b391cde1f", func := "vernier/vernierlaw19.UnitModes", spec := "unitModes", inPlace := ["math/bits.Add64", "math/bits.Sub64"], unfollowed := true, recurses := true, named := ["vernier/format.rows", "math/bits.deBruijn64tab", "math/bits.divideError", "math/bits.overflowError", "vernier/whole.kinds"], apart := false, laid := [("math/bits.deBruijn64tab", laid_math_bits_deBruijn64tab), ("vernier/format.rows", laid_vernier_format_rows), ("vernier/whole.kinds", laid_vernier_whole_kinds)] }
def UnitModesSaid : Prop := unitModesRow.holds Tryz.pinned (OpenSpec.ofChange unitModesSpec)

/-- ITS FALSE NEIGHBOUR: 'it returns false'. Refute it at one input. -/
def unitModesWrong : ChangeSpec := { name := "unitModes", fn := fun _ => fun
  | [d1, d2] => { results := [.lit (.bool false)], args := [d1, d2] }
  | _ => none }
def UnitModesWrongFalsely : Prop := unitModesRow.holds Tryz.pinned (OpenSpec.ofChange unitModesWrong)

/-- 'vernierlaw19.UnitMachine': WHATEVER THE INPUT: true; the input reads as it did. -/
def unitMachineSpec : ChangeSpec := { name := "unitMachine", fn := fun _ => fun
  | [d1, d2, d3] => { results := [.lit (.bool true)], args := [d1, d2, d3] }
  | _ => none }
def unitMachineRow : OpenClaim := { program := "ytkkidampbmfagaagreatdoor", sum := "0fc8b58239f08bb09124b23b1bab199d86a0c80621ac28c3454ce81b391cde1f", func := "vernier/vernierlaw19.UnitMachine", spec := "unitMachine", inPlace := ["math/bits.Add64", "math/bits.Sub64", "math.Float64frombits", "math.Float32bits", "math.Float64bits"], unfollowed := true, recurses := true, named := ["vernier/format.rows", "math/bits.deBruijn64tab", "math/bits.divideError", "math/bits.overflowError", "vernier/whole.kinds"], apart := false, laid := [("math/bits.deBruijn64tab", laid_math_bits_deBruijn64tab), ("vernier/format.rows", laid_vernier_format_rows), ("vernier/whole.kinds", laid_vernier_whole_kinds)] }
def UnitMachineSaid : Prop := unitMachineRow.holds Tryz.pinned (OpenSpec.ofChange unitMachineSpec)

/-- ITS FALSE NEIGHBOUR: 'it returns false'. Refute it at one input. -/
def unitMachineWrong : ChangeSpec := { name := "unitMachine", fn := fun _ => fun
  | [d1, d2, d3] => { results := [.lit (.bool false)], args := [d1, d2, d3] }
  | _ => none }
def UnitMachineWrongFalsely : Prop := unitMachineRow.holds Tryz.pinned (OpenSpec.ofChange unitMachineWrong)

/-- 'vernierlaw19.UnitRuns': WHATEVER THE INPUT: true; the input reads as it did. -/
def unitRunsSpec : ChangeSpec := { name := "unitRuns", fn := fun _ => fun
  | [d] => { results := [.lit (.bool true)], args := [d] }
  | _ => none }
def unitRunsRow : OpenClaim := { program := "ytkkidampbmfagaagreatdoor", sum := "0fc8b58239f08bb09124b23b1bab199d86a0c80621ac28c3454ce81b391cde1f", func := "vernier/vernierlaw19.UnitRuns", spec := "unitRuns", inPlace := ["math/bits.Add64", "math/bits.Sub64"], unfollowed := true, recurses := true, named := ["vernier/format.rows", "math/bits.deBruijn64tab", "math/bits.divideError", "math/bits.overflowError", "vernier/whole.kinds"], apart := false, laid := [("math/bits.deBruijn64tab", laid_math_bits_deBruijn64tab), ("vernier/format.rows", laid_vernier_format_rows), ("vernier/whole.kinds", laid_vernier_whole_kinds)] }
def UnitRunsSaid : Prop := unitRunsRow.holds Tryz.pinned (OpenSpec.ofChange unitRunsSpec)

/-- ITS FALSE NEIGHBOUR: 'it returns false'. Refute it at one input. -/
def unitRunsWrong : ChangeSpec := { name := "unitRuns", fn := fun _ => fun
  | [d] => { results := [.lit (.bool false)], args := [d] }
  | _ => none }
def UnitRunsWrongFalsely : Prop := unitRunsRow.holds Tryz.pinned (OpenSpec.ofChange unitRunsWrong)

/-- 'vernierlaw19.UnitSticky': WHATEVER THE INPUT: true; the input reads as it did. -/
def unitStickySpec : ChangeSpec := { name := "unitSticky", fn := fun _ => fun
  | [d1, d2] => { results := [.lit (.bool true)], args := [d1, d2] }
  | _ => none }
def unitStickyRow : OpenClaim := { program := "ytkkidampbmfagaagreatdoor", sum := "0fc8b58239f08bb09124b23b1bab199d86a0c80621ac28c3454ce81b391cde1f", func := "vernier/vernierlaw19.UnitSticky", spec := "unitSticky", inPlace := ["math/bits.Add64", "math/bits.Sub64"], unfollowed := true, recurses := true, named := ["vernier/format.rows", "math/bits.deBruijn64tab", "math/bits.divideError", "math/bits.overflowError", "vernier/whole.kinds"], apart := false, laid := [("math/bits.deBruijn64tab", laid_math_bits_deBruijn64tab), ("vernier/format.rows", laid_vernier_format_rows), ("vernier/whole.kinds", laid_vernier_whole_kinds)] }
def UnitStickySaid : Prop := unitStickyRow.holds Tryz.pinned (OpenSpec.ofChange unitStickySpec)

/-- ITS FALSE NEIGHBOUR: 'it returns false'. Refute it at one input. -/
def unitStickyWrong : ChangeSpec := { name := "unitSticky", fn := fun _ => fun
  | [d1, d2] => { results := [.lit (.bool false)], args := [d1, d2] }
  | _ => none }
def UnitStickyWrongFalsely : Prop := unitStickyRow.holds Tryz.pinned (OpenSpec.ofChange unitStickyWrong)

/-- 'vernierlaw19.UnitPlays': WHATEVER THE INPUT: true; the input reads as it did. -/
def unitPlaysSpec : ChangeSpec := { name := "unitPlays", fn := fun _ => fun
  | [d1, d2, d3] => { results := [.lit (.bool true)], args := [d1, d2, d3] }
  | _ => none }
def unitPlaysRow : OpenClaim := { program := "ytkkidampbmfagaagreatdoor", sum := "0fc8b58239f08bb09124b23b1bab199d86a0c80621ac28c3454ce81b391cde1f", func := "vernier/vernierlaw19.UnitPlays", spec := "unitPlays", inPlace := ["math/bits.Add64", "math/bits.Sub64"], unfollowed := true, recurses := true, named := ["vernier/format.rows", "math/bits.deBruijn64tab", "math/bits.divideError", "math/bits.overflowError", "vernier/whole.kinds"], apart := false, laid := [("math/bits.deBruijn64tab", laid_math_bits_deBruijn64tab), ("vernier/format.rows", laid_vernier_format_rows), ("vernier/whole.kinds", laid_vernier_whole_kinds)] }
def UnitPlaysSaid : Prop := unitPlaysRow.holds Tryz.pinned (OpenSpec.ofChange unitPlaysSpec)

/-- ITS FALSE NEIGHBOUR: 'it returns false'. Refute it at one input. -/
def unitPlaysWrong : ChangeSpec := { name := "unitPlays", fn := fun _ => fun
  | [d1, d2, d3] => { results := [.lit (.bool false)], args := [d1, d2, d3] }
  | _ => none }
def UnitPlaysWrongFalsely : Prop := unitPlaysRow.holds Tryz.pinned (OpenSpec.ofChange unitPlaysWrong)

/- THE SECOND FORM. 'bulk': how many values and letters a reading holds, each counted each time it is reached (what is shared counts as often as it is met; a slice's spare places count too). A statement '..UptoSaid' is the law's where the arguments, and the package variables that the reading takes, are together of bulk at most 1048576: NARROWER than '..Said'. Prove '..Said' where nothing that the law and all that it calls make is longer than what came in: it says more and counts as full. Else prove '..UptoSaid'. A law counts once. -/
mutual
def uptoBulk {H : Type} : DataW H → Nat
  | .lit (.string bytes) => bytes.length + 1
  | .lit _ => 1
  | .nil => 1
  | .ptr d => uptoBulk d + 1
  | .slice elems spare => uptoBulkAll elems + uptoBulkAll spare + 1
  | .agg parts => uptoBulkAll parts + 1
  | .iface _ d => uptoBulk d + 1
  | .map entries => uptoBulkEntries entries + 1
  | .held _ => 1
def uptoBulkAll {H : Type} : List (DataW H) → Nat
  | [] => 0
  | d :: r => uptoBulk d + uptoBulkAll r
def uptoBulkEntries {H : Type} : List (Lit × DataW H) → Nat
  | [] => 0
  | x :: r => uptoBulkEntry x + uptoBulkEntries r
def uptoBulkEntry {H : Type} : Lit × DataW H → Nat
  | (.string bytes, d) => bytes.length + uptoBulk d + 1
  | (_, d) => uptoBulk d + 1
 end
def uptoSmall : (H : Type) → List (DataW H) → Bool := fun _ ds => decide (uptoBulkAll ds ≤ 1048576)
def OpenSpec.upto (s : _root_.Go.ChangeSpec) : _root_.Go.OpenSpec := { _root_.Go.OpenSpec.ofChange s with cond := some uptoSmall }

/-- 'vernierlaw17.MetalUnit', WHERE WHAT IT READS IS OF BULK AT MOST 1048576: true; the input reads as it did. -/
def metalUnitUptoRow : OpenClaim := { program := "ytkkidampbmfagaagreatdoor", sum := "0fc8b58239f08bb09124b23b1bab199d86a0c80621ac28c3454ce81b391cde1f", func := "vernier/vernierlaw17.MetalUnit", spec := "metalUnit", inPlace := ["math/bits.Add64", "math/bits.Sub64", "math.Float64bits", "math.Float64frombits"], unfollowed := true, recurses := true, named := ["vernier/format.rows", "math/bits.deBruijn64tab", "math/bits.divideError", "math/bits.overflowError", "vernier/whole.kinds"], apart := false, laid := [("math/bits.deBruijn64tab", laid_math_bits_deBruijn64tab), ("vernier/format.rows", laid_vernier_format_rows), ("vernier/whole.kinds", laid_vernier_whole_kinds)], narrowed := true }
def MetalUnitUptoSaid : Prop := metalUnitUptoRow.holds Tryz.pinned (OpenSpec.upto metalUnitSpec)

/-- 'verniertop.WholeMetal', WHERE WHAT IT READS IS OF BULK AT MOST 1048576: true; the input reads as it did. -/
def wholeMetalUptoRow : OpenClaim := { program := "ytkkidampbmfagaagreatdoor", sum := "0fc8b58239f08bb09124b23b1bab199d86a0c80621ac28c3454ce81b391cde1f", func := "vernier/verniertop.WholeMetal", spec := "wholeMetal", inPlace := ["math/bits.Add64", "math/bits.Sub64"], unfollowed := true, recurses := true, named := ["vernier/format.rows", "math/bits.deBruijn64tab", "math/bits.divideError", "math/bits.overflowError"], apart := false, laid := [("math/bits.deBruijn64tab", laid_math_bits_deBruijn64tab), ("vernier/format.rows", laid_vernier_format_rows)], narrowed := true }
def WholeMetalUptoSaid : Prop := wholeMetalUptoRow.holds Tryz.pinned (OpenSpec.upto wholeMetalSpec)

/-- 'vernierlaw19.UnitLayers', WHERE WHAT IT READS IS OF BULK AT MOST 1048576: true; the input reads as it did. -/
def unitLayersUptoRow : OpenClaim := { program := "ytkkidampbmfagaagreatdoor", sum := "0fc8b58239f08bb09124b23b1bab199d86a0c80621ac28c3454ce81b391cde1f", func := "vernier/vernierlaw19.UnitLayers", spec := "unitLayers", inPlace := ["math/bits.Add64", "math/bits.Sub64"], unfollowed := true, recurses := true, named := ["vernier/format.rows", "math/bits.deBruijn64tab", "math/bits.divideError", "math/bits.overflowError", "vernier/whole.kinds"], apart := false, laid := [("math/bits.deBruijn64tab", laid_math_bits_deBruijn64tab), ("vernier/format.rows", laid_vernier_format_rows), ("vernier/whole.kinds", laid_vernier_whole_kinds)], narrowed := true }
def UnitLayersUptoSaid : Prop := unitLayersUptoRow.holds Tryz.pinned (OpenSpec.upto unitLayersSpec)

/-- 'vernierlaw19.UnitTraps', WHERE WHAT IT READS IS OF BULK AT MOST 1048576: true; the input reads as it did. -/
def unitTrapsUptoRow : OpenClaim := { program := "ytkkidampbmfagaagreatdoor", sum := "0fc8b58239f08bb09124b23b1bab199d86a0c80621ac28c3454ce81b391cde1f", func := "vernier/vernierlaw19.UnitTraps", spec := "unitTraps", inPlace := ["math/bits.Add64", "math/bits.Sub64"], unfollowed := true, recurses := true, named := ["vernier/format.rows", "math/bits.deBruijn64tab", "math/bits.divideError", "math/bits.overflowError", "vernier/whole.kinds"], apart := false, laid := [("math/bits.deBruijn64tab", laid_math_bits_deBruijn64tab), ("vernier/format.rows", laid_vernier_format_rows), ("vernier/whole.kinds", laid_vernier_whole_kinds)], narrowed := true }
def UnitTrapsUptoSaid : Prop := unitTrapsUptoRow.holds Tryz.pinned (OpenSpec.upto unitTrapsSpec)

/-- 'vernierlaw19.UnitModes', WHERE WHAT IT READS IS OF BULK AT MOST 1048576: true; the input reads as it did. -/
def unitModesUptoRow : OpenClaim := { program := "ytkkidampbmfagaagreatdoor", sum := "0fc8b58239f08bb09124b23b1bab199d86a0c80621ac28c3454ce81b391cde1f", func := "vernier/vernierlaw19.UnitModes", spec := "unitModes", inPlace := ["math/bits.Add64", "math/bits.Sub64"], unfollowed := true, recurses := true, named := ["vernier/format.rows", "math/bits.deBruijn64tab", "math/bits.divideError", "math/bits.overflowError", "vernier/whole.kinds"], apart := false, laid := [("math/bits.deBruijn64tab", laid_math_bits_deBruijn64tab), ("vernier/format.rows", laid_vernier_format_rows), ("vernier/whole.kinds", laid_vernier_whole_kinds)], narrowed := true }
def UnitModesUptoSaid : Prop := unitModesUptoRow.holds Tryz.pinned (OpenSpec.upto unitModesSpec)

/-- 'vernierlaw19.UnitMachine', WHERE WHAT IT READS IS OF BULK AT MOST 1048576: true; the input reads as it did. -/
def unitMachineUptoRow : OpenClaim := { program := "ytkkidampbmfagaagreatdoor", sum := "0fc8b58239f08bb09124b23b1bab199d86a0c80621ac28c3454ce81b391cde1f", func := "vernier/vernierlaw19.UnitMachine", spec := "unitMachine", inPlace := ["math/bits.Add64", "math/bits.Sub64", "math.Float64frombits", "math.Float32bits", "math.Float64bits"], unfollowed := true, recurses := true, named := ["vernier/format.rows", "math/bits.deBruijn64tab", "math/bits.divideError", "math/bits.overflowError", "vernier/whole.kinds"], apart := false, laid := [("math/bits.deBruijn64tab", laid_math_bits_deBruijn64tab), ("vernier/format.rows", laid_vernier_format_rows), ("vernier/whole.kinds", laid_vernier_whole_kinds)], narrowed := true }
def UnitMachineUptoSaid : Prop := unitMachineUptoRow.holds Tryz.pinned (OpenSpec.upto unitMachineSpec)

/-- 'vernierlaw19.UnitRuns', WHERE WHAT IT READS IS OF BULK AT MOST 1048576: true; the input reads as it did. -/
def unitRunsUptoRow : OpenClaim := { program := "ytkkidampbmfagaagreatdoor", sum := "0fc8b58239f08bb09124b23b1bab199d86a0c80621ac28c3454ce81b391cde1f", func := "vernier/vernierlaw19.UnitRuns", spec := "unitRuns", inPlace := ["math/bits.Add64", "math/bits.Sub64"], unfollowed := true, recurses := true, named := ["vernier/format.rows", "math/bits.deBruijn64tab", "math/bits.divideError", "math/bits.overflowError", "vernier/whole.kinds"], apart := false, laid := [("math/bits.deBruijn64tab", laid_math_bits_deBruijn64tab), ("vernier/format.rows", laid_vernier_format_rows), ("vernier/whole.kinds", laid_vernier_whole_kinds)], narrowed := true }
def UnitRunsUptoSaid : Prop := unitRunsUptoRow.holds Tryz.pinned (OpenSpec.upto unitRunsSpec)

/-- 'vernierlaw19.UnitSticky', WHERE WHAT IT READS IS OF BULK AT MOST 1048576: true; the input reads as it did. -/
def unitStickyUptoRow : OpenClaim := { program := "ytkkidampbmfagaagreatdoor", sum := "0fc8b58239f08bb09124b23b1bab199d86a0c80621ac28c3454ce81b391cde1f", func := "vernier/vernierlaw19.UnitSticky", spec := "unitSticky", inPlace := ["math/bits.Add64", "math/bits.Sub64"], unfollowed := true, recurses := true, named := ["vernier/format.rows", "math/bits.deBruijn64tab", "math/bits.divideError", "math/bits.overflowError", "vernier/whole.kinds"], apart := false, laid := [("math/bits.deBruijn64tab", laid_math_bits_deBruijn64tab), ("vernier/format.rows", laid_vernier_format_rows), ("vernier/whole.kinds", laid_vernier_whole_kinds)], narrowed := true }
def UnitStickyUptoSaid : Prop := unitStickyUptoRow.holds Tryz.pinned (OpenSpec.upto unitStickySpec)

/-- 'vernierlaw19.UnitPlays', WHERE WHAT IT READS IS OF BULK AT MOST 1048576: true; the input reads as it did. -/
def unitPlaysUptoRow : OpenClaim := { program := "ytkkidampbmfagaagreatdoor", sum := "0fc8b58239f08bb09124b23b1bab199d86a0c80621ac28c3454ce81b391cde1f", func := "vernier/vernierlaw19.UnitPlays", spec := "unitPlays", inPlace := ["math/bits.Add64", "math/bits.Sub64"], unfollowed := true, recurses := true, named := ["vernier/format.rows", "math/bits.deBruijn64tab", "math/bits.divideError", "math/bits.overflowError", "vernier/whole.kinds"], apart := false, laid := [("math/bits.deBruijn64tab", laid_math_bits_deBruijn64tab), ("vernier/format.rows", laid_vernier_format_rows), ("vernier/whole.kinds", laid_vernier_whole_kinds)], narrowed := true }
def UnitPlaysUptoSaid : Prop := unitPlaysUptoRow.holds Tryz.pinned (OpenSpec.upto unitPlaysSpec)

end Rows
end Go.Proofs.YtkkidampbmfagaaGreatDoor
