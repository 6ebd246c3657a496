/-
  NARROWER THAN 'FOR EVERY INPUT', by the rows' own cells (each row's printed sentence says how): CplxAlls: laid · CplxMachine: laid · CplxMetal: laid · CplxEvals: laid · CplxLaws: laid · WholeComplex: laid.
  DERIVED. THE GIVEN ROWS OF THIS SEAT. 6 by the template 'for every input the law returns true; each argument reads behind the call as it read before'; 0 by the template 'total and deterministic' (their statements: YthajbkcpnbiobaaGreatDoorTotals.lean).
  GIVEN WITH THE SEED: the statements are not yours to turn. If you find one false, say at which input.
  Laid BY PROGRAM, IN A SANDBOX (cutbox-rows.mjs): the forced cells as the released guide's own fill.sh prints them over the translation 48a6fb94f69e7237… (all of the seat's roots in one cut). By AI agents, Wed Nov 11 2026. No macro, syntax, notation, axiom, sorry.
-/
import Derived.Test.YthajbkcpnbiobaaGreatDoorChecked
import GoSem.Claim
import GoSem.ClaimJoined
import GoSem.ClaimMapViews
import Derived.JoinedTies
import Derived.KernelRfl
namespace Go.Proofs.YthajbkcpnbiobaaGreatDoor
/- THE CELL 'sum', in the pinned program and in every row, IS THE sha256 OF THE DUMP (.gsa) THAT YthajbkcpnbiobaaGreatDoorProg.lean LOADS. Nothing in Lean hashes anything: it is a label: what it is worth is what the hold of that sum in a sandbox is worth. -/
noncomputable def Tryz.pinned : Pinned := { name := "ythajbkcpnbiobaagreatdoor", sum := "48a6fb94f69e723729c076addb8f1e8f1449fcf50baca8e2e7f4a661ce18282d", checked := Tryz.checked }
namespace Rows
def none {H : Type} : Left H := { results := [], args := [] }

/- WHAT THE LISTED PACKAGE-LEVEL VARIABLES READ AS WHEN THE CALL BEGINS. Each datum BY PROGRAM (the guide's laid-datum.mjs) off the statement by which the dump's own 'gosem.cut.vars' lays the variable. In a bare row this is a premise. The card (YthajbkcpnbiobaaGreatDoorCards.lean) ties it to the program's text. -/
def laid_math_bits_deBruijn64tab {H : Type} : DataW H := .agg [.lit (.int .u8 0), .lit (.int .u8 1), .lit (.int .u8 56), .lit (.int .u8 2), .lit (.int .u8 57), .lit (.int .u8 49), .lit (.int .u8 28), .lit (.int .u8 3), .lit (.int .u8 61), .lit (.int .u8 58), .lit (.int .u8 42), .lit (.int .u8 50), .lit (.int .u8 38), .lit (.int .u8 29), .lit (.int .u8 17), .lit (.int .u8 4), .lit (.int .u8 62), .lit (.int .u8 47), .lit (.int .u8 59), .lit (.int .u8 36), .lit (.int .u8 45), .lit (.int .u8 43), .lit (.int .u8 51), .lit (.int .u8 22), .lit (.int .u8 53), .lit (.int .u8 39), .lit (.int .u8 33), .lit (.int .u8 30), .lit (.int .u8 24), .lit (.int .u8 18), .lit (.int .u8 12), .lit (.int .u8 5), .lit (.int .u8 63), .lit (.int .u8 55), .lit (.int .u8 48), .lit (.int .u8 27), .lit (.int .u8 60), .lit (.int .u8 41), .lit (.int .u8 37), .lit (.int .u8 16), .lit (.int .u8 46), .lit (.int .u8 35), .lit (.int .u8 44), .lit (.int .u8 21), .lit (.int .u8 52), .lit (.int .u8 32), .lit (.int .u8 23), .lit (.int .u8 11), .lit (.int .u8 54), .lit (.int .u8 26), .lit (.int .u8 40), .lit (.int .u8 15), .lit (.int .u8 34), .lit (.int .u8 20), .lit (.int .u8 31), .lit (.int .u8 10), .lit (.int .u8 25), .lit (.int .u8 14), .lit (.int .u8 19), .lit (.int .u8 9), .lit (.int .u8 13), .lit (.int .u8 8), .lit (.int .u8 7), .lit (.int .u8 6)]
def laid_vernier_format_rows {H : Type} : DataW H := .agg [.agg [.lit (.int .i64 16), .lit (.int .i64 11), .lit (.int .i64 (-14)), .lit (.int .i64 15)], .agg [.lit (.int .i64 16), .lit (.int .i64 8), .lit (.int .i64 (-126)), .lit (.int .i64 127)], .agg [.lit (.int .i64 32), .lit (.int .i64 24), .lit (.int .i64 (-126)), .lit (.int .i64 127)], .agg [.lit (.int .i64 64), .lit (.int .i64 53), .lit (.int .i64 (-1022)), .lit (.int .i64 1023)]]
def laid_vernier_whole_kinds {H : Type} : DataW H := .agg [.agg [.lit (.int .u64 2147483648), .lit (.int .u64 2147483647)], .agg [.lit (.int .u64 9223372036854775808), .lit (.int .u64 9223372036854775807)], .agg [.lit (.int .u64 0), .lit (.int .u64 4294967295)], .agg [.lit (.int .u64 0), .lit (.int .u64 18446744073709551615)]]

/-- 'vernierlaw24.CplxAlls': WHATEVER THE INPUT: true; the input reads as it did. -/
def cplxAllsSpec : ChangeSpec := { name := "cplxAlls", fn := fun _ => fun
  | [d] => { results := [.lit (.bool true)], args := [d] }
  | _ => none }
def cplxAllsRow : OpenClaim := { program := "ythajbkcpnbiobaagreatdoor", sum := "48a6fb94f69e723729c076addb8f1e8f1449fcf50baca8e2e7f4a661ce18282d", func := "vernier/vernierlaw24.CplxAlls", spec := "cplxAlls", inPlace := ["math/bits.Add64", "math/bits.Sub64"], unfollowed := true, recurses := true, named := ["vernier/format.rows", "math/bits.deBruijn64tab", "math/bits.divideError", "math/bits.overflowError", "vernier/whole.kinds"], apart := false, laid := [("math/bits.deBruijn64tab", laid_math_bits_deBruijn64tab), ("vernier/format.rows", laid_vernier_format_rows), ("vernier/whole.kinds", laid_vernier_whole_kinds)] }
def CplxAllsSaid : Prop := cplxAllsRow.holds Tryz.pinned (OpenSpec.ofChange cplxAllsSpec)

/-- ITS FALSE NEIGHBOUR: 'it returns false'. Refute it at one input. -/
def cplxAllsWrong : ChangeSpec := { name := "cplxAlls", fn := fun _ => fun
  | [d] => { results := [.lit (.bool false)], args := [d] }
  | _ => none }
def CplxAllsWrongFalsely : Prop := cplxAllsRow.holds Tryz.pinned (OpenSpec.ofChange cplxAllsWrong)

/-- 'vernierlaw24.CplxMachine': WHATEVER THE INPUT: true; the input reads as it did. -/
def cplxMachineSpec : ChangeSpec := { name := "cplxMachine", fn := fun _ => fun
  | [d1, d2] => { results := [.lit (.bool true)], args := [d1, d2] }
  | _ => none }
def cplxMachineRow : OpenClaim := { program := "ythajbkcpnbiobaagreatdoor", sum := "48a6fb94f69e723729c076addb8f1e8f1449fcf50baca8e2e7f4a661ce18282d", func := "vernier/vernierlaw24.CplxMachine", spec := "cplxMachine", inPlace := ["math/bits.Add64", "math/bits.Sub64", "math.Float64frombits", "math.Float64bits"], unfollowed := true, recurses := true, named := ["vernier/format.rows", "math/bits.deBruijn64tab", "math/bits.divideError", "math/bits.overflowError", "vernier/whole.kinds"], apart := false, laid := [("math/bits.deBruijn64tab", laid_math_bits_deBruijn64tab), ("vernier/format.rows", laid_vernier_format_rows), ("vernier/whole.kinds", laid_vernier_whole_kinds)] }
def CplxMachineSaid : Prop := cplxMachineRow.holds Tryz.pinned (OpenSpec.ofChange cplxMachineSpec)

/-- ITS FALSE NEIGHBOUR: 'it returns false'. Refute it at one input. -/
def cplxMachineWrong : ChangeSpec := { name := "cplxMachine", fn := fun _ => fun
  | [d1, d2] => { results := [.lit (.bool false)], args := [d1, d2] }
  | _ => none }
def CplxMachineWrongFalsely : Prop := cplxMachineRow.holds Tryz.pinned (OpenSpec.ofChange cplxMachineWrong)

/-- 'vernierlaw24.CplxMetal': WHATEVER THE INPUT: true; the input reads as it did. -/
def cplxMetalSpec : ChangeSpec := { name := "cplxMetal", fn := fun _ => fun
  | [d1, d2] => { results := [.lit (.bool true)], args := [d1, d2] }
  | _ => none }
def cplxMetalRow : OpenClaim := { program := "ythajbkcpnbiobaagreatdoor", sum := "48a6fb94f69e723729c076addb8f1e8f1449fcf50baca8e2e7f4a661ce18282d", func := "vernier/vernierlaw24.CplxMetal", spec := "cplxMetal", inPlace := ["math/bits.Add64", "math/bits.Sub64", "math.Float64frombits", "math.Float64bits"], unfollowed := true, recurses := true, named := ["vernier/format.rows", "math/bits.deBruijn64tab", "math/bits.divideError", "math/bits.overflowError", "vernier/whole.kinds"], apart := false, laid := [("math/bits.deBruijn64tab", laid_math_bits_deBruijn64tab), ("vernier/format.rows", laid_vernier_format_rows), ("vernier/whole.kinds", laid_vernier_whole_kinds)] }
def CplxMetalSaid : Prop := cplxMetalRow.holds Tryz.pinned (OpenSpec.ofChange cplxMetalSpec)

/-- ITS FALSE NEIGHBOUR: 'it returns false'. Refute it at one input. -/
def cplxMetalWrong : ChangeSpec := { name := "cplxMetal", fn := fun _ => fun
  | [d1, d2] => { results := [.lit (.bool false)], args := [d1, d2] }
  | _ => none }
def CplxMetalWrongFalsely : Prop := cplxMetalRow.holds Tryz.pinned (OpenSpec.ofChange cplxMetalWrong)

/-- 'vernierlaw24.CplxEvals': WHATEVER THE INPUT: true; the input reads as it did. -/
def cplxEvalsSpec : ChangeSpec := { name := "cplxEvals", fn := fun _ => fun
  | [d1, d2, d3, d4] => { results := [.lit (.bool true)], args := [d1, d2, d3, d4] }
  | _ => none }
def cplxEvalsRow : OpenClaim := { program := "ythajbkcpnbiobaagreatdoor", sum := "48a6fb94f69e723729c076addb8f1e8f1449fcf50baca8e2e7f4a661ce18282d", func := "vernier/vernierlaw24.CplxEvals", spec := "cplxEvals", inPlace := ["math/bits.Add64", "math/bits.Sub64", "math.Float64frombits", "math.Float64bits"], unfollowed := true, recurses := true, named := ["vernier/format.rows", "math/bits.deBruijn64tab", "math/bits.divideError", "math/bits.overflowError", "vernier/whole.kinds"], apart := false, laid := [("math/bits.deBruijn64tab", laid_math_bits_deBruijn64tab), ("vernier/format.rows", laid_vernier_format_rows), ("vernier/whole.kinds", laid_vernier_whole_kinds)] }
def CplxEvalsSaid : Prop := cplxEvalsRow.holds Tryz.pinned (OpenSpec.ofChange cplxEvalsSpec)

/-- ITS FALSE NEIGHBOUR: 'it returns false'. Refute it at one input. -/
def cplxEvalsWrong : ChangeSpec := { name := "cplxEvals", fn := fun _ => fun
  | [d1, d2, d3, d4] => { results := [.lit (.bool false)], args := [d1, d2, d3, d4] }
  | _ => none }
def CplxEvalsWrongFalsely : Prop := cplxEvalsRow.holds Tryz.pinned (OpenSpec.ofChange cplxEvalsWrong)

/-- 'vernierlaw24.CplxLaws': WHATEVER THE INPUT: true; the input reads as it did. -/
def cplxLawsSpec : ChangeSpec := { name := "cplxLaws", fn := fun _ => fun
  | [d] => { results := [.lit (.bool true)], args := [d] }
  | _ => none }
def cplxLawsRow : OpenClaim := { program := "ythajbkcpnbiobaagreatdoor", sum := "48a6fb94f69e723729c076addb8f1e8f1449fcf50baca8e2e7f4a661ce18282d", func := "vernier/vernierlaw24.CplxLaws", spec := "cplxLaws", inPlace := ["math/bits.Add64", "math/bits.Sub64"], unfollowed := true, recurses := true, named := ["vernier/format.rows", "math/bits.deBruijn64tab", "math/bits.divideError", "math/bits.overflowError", "vernier/whole.kinds"], apart := false, laid := [("math/bits.deBruijn64tab", laid_math_bits_deBruijn64tab), ("vernier/format.rows", laid_vernier_format_rows), ("vernier/whole.kinds", laid_vernier_whole_kinds)] }
def CplxLawsSaid : Prop := cplxLawsRow.holds Tryz.pinned (OpenSpec.ofChange cplxLawsSpec)

/-- ITS FALSE NEIGHBOUR: 'it returns false'. Refute it at one input. -/
def cplxLawsWrong : ChangeSpec := { name := "cplxLaws", fn := fun _ => fun
  | [d] => { results := [.lit (.bool false)], args := [d] }
  | _ => none }
def CplxLawsWrongFalsely : Prop := cplxLawsRow.holds Tryz.pinned (OpenSpec.ofChange cplxLawsWrong)

/-- 'verniertop.WholeComplex': WHATEVER THE INPUT: true; the input reads as it did. -/
def wholeComplexSpec : ChangeSpec := { name := "wholeComplex", fn := fun _ => fun
  | [d] => { results := [.lit (.bool true)], args := [d] }
  | _ => none }
def wholeComplexRow : OpenClaim := { program := "ythajbkcpnbiobaagreatdoor", sum := "48a6fb94f69e723729c076addb8f1e8f1449fcf50baca8e2e7f4a661ce18282d", func := "vernier/verniertop.WholeComplex", spec := "wholeComplex", inPlace := ["math.Float64frombits", "math.Float64bits", "math/bits.Add64", "math/bits.Sub64"], unfollowed := true, recurses := true, named := ["vernier/format.rows", "math/bits.deBruijn64tab", "math/bits.divideError", "math/bits.overflowError", "vernier/whole.kinds"], apart := false, laid := [("math/bits.deBruijn64tab", laid_math_bits_deBruijn64tab), ("vernier/format.rows", laid_vernier_format_rows), ("vernier/whole.kinds", laid_vernier_whole_kinds)] }
def WholeComplexSaid : Prop := wholeComplexRow.holds Tryz.pinned (OpenSpec.ofChange wholeComplexSpec)

/-- ITS FALSE NEIGHBOUR: 'it returns false'. Refute it at one input. -/
def wholeComplexWrong : ChangeSpec := { name := "wholeComplex", fn := fun _ => fun
  | [d] => { results := [.lit (.bool false)], args := [d] }
  | _ => none }
def WholeComplexWrongFalsely : Prop := wholeComplexRow.holds Tryz.pinned (OpenSpec.ofChange wholeComplexWrong)

/- THE SECOND FORM. 'bulk': how many values and letters a reading holds, each counted each time it is reached (what is shared counts as often as it is met; a slice's spare places count too). A statement '..UptoSaid' is the law's where the arguments, and the package variables that the reading takes, are together of bulk at most 1048576: NARROWER than '..Said'. Prove '..Said' where nothing that the law and all that it calls make is longer than what came in: it says more and counts as full. Else prove '..UptoSaid'. A law counts once. -/
mutual
def uptoBulk {H : Type} : DataW H → Nat
  | .lit (.string bytes) => bytes.length + 1
  | .lit _ => 1
  | .nil => 1
  | .ptr d => uptoBulk d + 1
  | .slice elems spare => uptoBulkAll elems + uptoBulkAll spare + 1
  | .agg parts => uptoBulkAll parts + 1
  | .iface _ d => uptoBulk d + 1
  | .map entries => uptoBulkEntries entries + 1
  | .held _ => 1
def uptoBulkAll {H : Type} : List (DataW H) → Nat
  | [] => 0
  | d :: r => uptoBulk d + uptoBulkAll r
def uptoBulkEntries {H : Type} : List (Lit × DataW H) → Nat
  | [] => 0
  | x :: r => uptoBulkEntry x + uptoBulkEntries r
def uptoBulkEntry {H : Type} : Lit × DataW H → Nat
  | (.string bytes, d) => bytes.length + uptoBulk d + 1
  | (_, d) => uptoBulk d + 1
 end
def uptoSmall : (H : Type) → List (DataW H) → Bool := fun _ ds => decide (uptoBulkAll ds ≤ 1048576)
def OpenSpec.upto (s : _root_.Go.ChangeSpec) : _root_.Go.OpenSpec := { _root_.Go.OpenSpec.ofChange s with cond := some uptoSmall }

/-- 'vernierlaw24.CplxAlls', WHERE WHAT IT READS IS OF BULK AT MOST 1048576: true; the input reads as it did. -/
def cplxAllsUptoRow : OpenClaim := { program := "ythajbkcpnbiobaagreatdoor", sum := "48a6fb94f69e723729c076addb8f1e8f1449fcf50baca8e2e7f4a661ce18282d", func := "vernier/vernierlaw24.CplxAlls", spec := "cplxAlls", inPlace := ["math/bits.Add64", "math/bits.Sub64"], unfollowed := true, recurses := true, named := ["vernier/format.rows", "math/bits.deBruijn64tab", "math/bits.divideError", "math/bits.overflowError", "vernier/whole.kinds"], apart := false, laid := [("math/bits.deBruijn64tab", laid_math_bits_deBruijn64tab), ("vernier/format.rows", laid_vernier_format_rows), ("vernier/whole.kinds", laid_vernier_whole_kinds)], narrowed := true }
def CplxAllsUptoSaid : Prop := cplxAllsUptoRow.holds Tryz.pinned (OpenSpec.upto cplxAllsSpec)

/-- 'vernierlaw24.CplxMachine', WHERE WHAT IT READS IS OF BULK AT MOST 1048576: true; the input reads as it did. -/
def cplxMachineUptoRow : OpenClaim := { program := "ythajbkcpnbiobaagreatdoor", sum := "48a6fb94f69e723729c076addb8f1e8f1449fcf50baca8e2e7f4a661ce18282d", func := "vernier/vernierlaw24.CplxMachine", spec := "cplxMachine", inPlace := ["math/bits.Add64", "math/bits.Sub64", "math.Float64frombits", "math.Float64bits"], unfollowed := true, recurses := true, named := ["vernier/format.rows", "math/bits.deBruijn64tab", "math/bits.divideError", "math/bits.overflowError", "vernier/whole.kinds"], apart := false, laid := [("math/bits.deBruijn64tab", laid_math_bits_deBruijn64tab), ("vernier/format.rows", laid_vernier_format_rows), ("vernier/whole.kinds", laid_vernier_whole_kinds)], narrowed := true }
def CplxMachineUptoSaid : Prop := cplxMachineUptoRow.holds Tryz.pinned (OpenSpec.upto cplxMachineSpec)

/-- 'vernierlaw24.CplxMetal', WHERE WHAT IT READS IS OF BULK AT MOST 1048576: true; the input reads as it did. -/
def cplxMetalUptoRow : OpenClaim := { program := "ythajbkcpnbiobaagreatdoor", sum := "48a6fb94f69e723729c076addb8f1e8f1449fcf50baca8e2e7f4a661ce18282d", func := "vernier/vernierlaw24.CplxMetal", spec := "cplxMetal", inPlace := ["math/bits.Add64", "math/bits.Sub64", "math.Float64frombits", "math.Float64bits"], unfollowed := true, recurses := true, named := ["vernier/format.rows", "math/bits.deBruijn64tab", "math/bits.divideError", "math/bits.overflowError", "vernier/whole.kinds"], apart := false, laid := [("math/bits.deBruijn64tab", laid_math_bits_deBruijn64tab), ("vernier/format.rows", laid_vernier_format_rows), ("vernier/whole.kinds", laid_vernier_whole_kinds)], narrowed := true }
def CplxMetalUptoSaid : Prop := cplxMetalUptoRow.holds Tryz.pinned (OpenSpec.upto cplxMetalSpec)

/-- 'vernierlaw24.CplxEvals', WHERE WHAT IT READS IS OF BULK AT MOST 1048576: true; the input reads as it did. -/
def cplxEvalsUptoRow : OpenClaim := { program := "ythajbkcpnbiobaagreatdoor", sum := "48a6fb94f69e723729c076addb8f1e8f1449fcf50baca8e2e7f4a661ce18282d", func := "vernier/vernierlaw24.CplxEvals", spec := "cplxEvals", inPlace := ["math/bits.Add64", "math/bits.Sub64", "math.Float64frombits", "math.Float64bits"], unfollowed := true, recurses := true, named := ["vernier/format.rows", "math/bits.deBruijn64tab", "math/bits.divideError", "math/bits.overflowError", "vernier/whole.kinds"], apart := false, laid := [("math/bits.deBruijn64tab", laid_math_bits_deBruijn64tab), ("vernier/format.rows", laid_vernier_format_rows), ("vernier/whole.kinds", laid_vernier_whole_kinds)], narrowed := true }
def CplxEvalsUptoSaid : Prop := cplxEvalsUptoRow.holds Tryz.pinned (OpenSpec.upto cplxEvalsSpec)

/-- 'vernierlaw24.CplxLaws', WHERE WHAT IT READS IS OF BULK AT MOST 1048576: true; the input reads as it did. -/
def cplxLawsUptoRow : OpenClaim := { program := "ythajbkcpnbiobaagreatdoor", sum := "48a6fb94f69e723729c076addb8f1e8f1449fcf50baca8e2e7f4a661ce18282d", func := "vernier/vernierlaw24.CplxLaws", spec := "cplxLaws", inPlace := ["math/bits.Add64", "math/bits.Sub64"], unfollowed := true, recurses := true, named := ["vernier/format.rows", "math/bits.deBruijn64tab", "math/bits.divideError", "math/bits.overflowError", "vernier/whole.kinds"], apart := false, laid := [("math/bits.deBruijn64tab", laid_math_bits_deBruijn64tab), ("vernier/format.rows", laid_vernier_format_rows), ("vernier/whole.kinds", laid_vernier_whole_kinds)], narrowed := true }
def CplxLawsUptoSaid : Prop := cplxLawsUptoRow.holds Tryz.pinned (OpenSpec.upto cplxLawsSpec)

/-- 'verniertop.WholeComplex', WHERE WHAT IT READS IS OF BULK AT MOST 1048576: true; the input reads as it did. -/
def wholeComplexUptoRow : OpenClaim := { program := "ythajbkcpnbiobaagreatdoor", sum := "48a6fb94f69e723729c076addb8f1e8f1449fcf50baca8e2e7f4a661ce18282d", func := "vernier/verniertop.WholeComplex", spec := "wholeComplex", inPlace := ["math.Float64frombits", "math.Float64bits", "math/bits.Add64", "math/bits.Sub64"], unfollowed := true, recurses := true, named := ["vernier/format.rows", "math/bits.deBruijn64tab", "math/bits.divideError", "math/bits.overflowError", "vernier/whole.kinds"], apart := false, laid := [("math/bits.deBruijn64tab", laid_math_bits_deBruijn64tab), ("vernier/format.rows", laid_vernier_format_rows), ("vernier/whole.kinds", laid_vernier_whole_kinds)], narrowed := true }
def WholeComplexUptoSaid : Prop := wholeComplexUptoRow.holds Tryz.pinned (OpenSpec.upto wholeComplexSpec)

end Rows
end Go.Proofs.YthajbkcpnbiobaaGreatDoor
