/-
  NARROWER THAN 'FOR EVERY INPUT', by the rows' own cells (each row's printed sentence says how): FlightDecodes: laid · FlightHolds: laid · FlightAuto: laid · FlightUnseats: laid · FlightScripts: laid · FlightBack: laid.
  DERIVED. THE GIVEN ROWS OF THIS SEAT. 6 by the template 'for every input the law returns true; each argument reads behind the call as it read before'; 0 by the template 'total and deterministic' (their statements: YtaacfjdknlglhaaGreatDoorTotals.lean).
  GIVEN WITH THE SEED: the statements are not yours to turn. If you find one false, say at which input.
  Laid BY PROGRAM, IN A SANDBOX (cutbox-rows.mjs): the forced cells as the released guide's own fill.sh prints them over the translation ec277208b464c201… (all of the seat's roots in one cut). By AI agents, Wed Nov 11 2026. No macro, syntax, notation, axiom, sorry.
-/
import Derived.Test.YtaacfjdknlglhaaGreatDoorChecked
import GoSem.Claim
import GoSem.ClaimJoined
import GoSem.ClaimMapViews
import Derived.JoinedTies
import Derived.KernelRfl
namespace Go.Proofs.YtaacfjdknlglhaaGreatDoor
/- THE CELL 'sum', in the pinned program and in every row, IS THE sha256 OF THE DUMP (.gsa) THAT YtaacfjdknlglhaaGreatDoorProg.lean LOADS. Nothing in Lean hashes anything: it is a label: what it is worth is what the hold of that sum in a sandbox is worth. -/
noncomputable def Tryz.pinned : Pinned := { name := "ytaacfjdknlglhaagreatdoor", sum := "ec277208b464c2015437b23ec824928da2e6a3c5c2d03e638e0280734ba1da2b", checked := Tryz.checked }
namespace Rows
def none {H : Type} : Left H := { results := [], args := [] }

/- WHAT THE LISTED PACKAGE-LEVEL VARIABLES READ AS WHEN THE CALL BEGINS. Each datum BY PROGRAM (the guide's laid-datum.mjs) off the statement by which the dump's own 'gosem.cut.vars' lays the variable. In a bare row this is a premise. The card (YtaacfjdknlglhaaGreatDoorCards.lean) ties it to the program's text. -/
def laid_math_bits_deBruijn32tab {H : Type} : DataW H := .agg [.lit (.int .u8 0), .lit (.int .u8 1), .lit (.int .u8 28), .lit (.int .u8 2), .lit (.int .u8 29), .lit (.int .u8 14), .lit (.int .u8 24), .lit (.int .u8 3), .lit (.int .u8 30), .lit (.int .u8 22), .lit (.int .u8 20), .lit (.int .u8 15), .lit (.int .u8 25), .lit (.int .u8 17), .lit (.int .u8 4), .lit (.int .u8 8), .lit (.int .u8 31), .lit (.int .u8 27), .lit (.int .u8 13), .lit (.int .u8 23), .lit (.int .u8 21), .lit (.int .u8 19), .lit (.int .u8 16), .lit (.int .u8 7), .lit (.int .u8 26), .lit (.int .u8 12), .lit (.int .u8 18), .lit (.int .u8 6), .lit (.int .u8 11), .lit (.int .u8 5), .lit (.int .u8 10), .lit (.int .u8 9)]
def laid_math_bits_deBruijn64tab {H : Type} : DataW H := .agg [.lit (.int .u8 0), .lit (.int .u8 1), .lit (.int .u8 56), .lit (.int .u8 2), .lit (.int .u8 57), .lit (.int .u8 49), .lit (.int .u8 28), .lit (.int .u8 3), .lit (.int .u8 61), .lit (.int .u8 58), .lit (.int .u8 42), .lit (.int .u8 50), .lit (.int .u8 38), .lit (.int .u8 29), .lit (.int .u8 17), .lit (.int .u8 4), .lit (.int .u8 62), .lit (.int .u8 47), .lit (.int .u8 59), .lit (.int .u8 36), .lit (.int .u8 45), .lit (.int .u8 43), .lit (.int .u8 51), .lit (.int .u8 22), .lit (.int .u8 53), .lit (.int .u8 39), .lit (.int .u8 33), .lit (.int .u8 30), .lit (.int .u8 24), .lit (.int .u8 18), .lit (.int .u8 12), .lit (.int .u8 5), .lit (.int .u8 63), .lit (.int .u8 55), .lit (.int .u8 48), .lit (.int .u8 27), .lit (.int .u8 60), .lit (.int .u8 41), .lit (.int .u8 37), .lit (.int .u8 16), .lit (.int .u8 46), .lit (.int .u8 35), .lit (.int .u8 44), .lit (.int .u8 21), .lit (.int .u8 52), .lit (.int .u8 32), .lit (.int .u8 23), .lit (.int .u8 11), .lit (.int .u8 54), .lit (.int .u8 26), .lit (.int .u8 40), .lit (.int .u8 15), .lit (.int .u8 34), .lit (.int .u8 20), .lit (.int .u8 31), .lit (.int .u8 10), .lit (.int .u8 25), .lit (.int .u8 14), .lit (.int .u8 19), .lit (.int .u8 9), .lit (.int .u8 13), .lit (.int .u8 8), .lit (.int .u8 7), .lit (.int .u8 6)]
def laid_internal_strconv_uint64pow10 {H : Type} : DataW H := .agg [.lit (.int .u64 1), .lit (.int .u64 10), .lit (.int .u64 100), .lit (.int .u64 1000), .lit (.int .u64 10000), .lit (.int .u64 100000), .lit (.int .u64 1000000), .lit (.int .u64 10000000), .lit (.int .u64 100000000), .lit (.int .u64 1000000000), .lit (.int .u64 10000000000), .lit (.int .u64 100000000000), .lit (.int .u64 1000000000000), .lit (.int .u64 10000000000000), .lit (.int .u64 100000000000000), .lit (.int .u64 1000000000000000), .lit (.int .u64 10000000000000000), .lit (.int .u64 100000000000000000), .lit (.int .u64 1000000000000000000), .lit (.int .u64 10000000000000000000)]

/-- 'jetwaylaw15.FlightDecodes': WHATEVER THE INPUT: true; the input reads as it did. -/
def flightDecodesSpec : ChangeSpec := { name := "flightDecodes", fn := fun _ => fun
  | [d] => { results := [.lit (.bool true)], args := [d] }
  | _ => none }
def flightDecodesRow : OpenClaim := { program := "ytaacfjdknlglhaagreatdoor", sum := "ec277208b464c2015437b23ec824928da2e6a3c5c2d03e638e0280734ba1da2b", func := "jetway/jetwaylaw15.FlightDecodes", spec := "flightDecodes", inPlace := ["math.archFloor", "math.Float64bits", "math.Float64frombits", "math.archTrunc", "slices.overlaps[int]"], unfollowed := true, recurses := true, named := ["internal/strconv.uint64pow10", "math/bits.deBruijn32tab", "math/bits.deBruijn64tab"], apart := false, laid := [("math/bits.deBruijn32tab", laid_math_bits_deBruijn32tab), ("math/bits.deBruijn64tab", laid_math_bits_deBruijn64tab), ("internal/strconv.uint64pow10", laid_internal_strconv_uint64pow10)] }
def FlightDecodesSaid : Prop := flightDecodesRow.holds Tryz.pinned (OpenSpec.ofChange flightDecodesSpec)

/-- ITS FALSE NEIGHBOUR: 'it returns false'. Refute it at one input. -/
def flightDecodesWrong : ChangeSpec := { name := "flightDecodes", fn := fun _ => fun
  | [d] => { results := [.lit (.bool false)], args := [d] }
  | _ => none }
def FlightDecodesWrongFalsely : Prop := flightDecodesRow.holds Tryz.pinned (OpenSpec.ofChange flightDecodesWrong)

/-- 'jetwaylaw15.FlightHolds': WHATEVER THE INPUT: true; the input reads as it did. -/
def flightHoldsSpec : ChangeSpec := { name := "flightHolds", fn := fun _ => fun
  | [d1, d2] => { results := [.lit (.bool true)], args := [d1, d2] }
  | _ => none }
def flightHoldsRow : OpenClaim := { program := "ytaacfjdknlglhaagreatdoor", sum := "ec277208b464c2015437b23ec824928da2e6a3c5c2d03e638e0280734ba1da2b", func := "jetway/jetwaylaw15.FlightHolds", spec := "flightHolds", inPlace := ["math.archFloor", "math.Float64bits", "math.Float64frombits", "math.archTrunc", "slices.overlaps[int]"], unfollowed := true, recurses := true, named := ["internal/strconv.uint64pow10", "math/bits.deBruijn32tab", "math/bits.deBruijn64tab"], apart := false, laid := [("math/bits.deBruijn32tab", laid_math_bits_deBruijn32tab), ("math/bits.deBruijn64tab", laid_math_bits_deBruijn64tab), ("internal/strconv.uint64pow10", laid_internal_strconv_uint64pow10)] }
def FlightHoldsSaid : Prop := flightHoldsRow.holds Tryz.pinned (OpenSpec.ofChange flightHoldsSpec)

/-- ITS FALSE NEIGHBOUR: 'it returns false'. Refute it at one input. -/
def flightHoldsWrong : ChangeSpec := { name := "flightHolds", fn := fun _ => fun
  | [d1, d2] => { results := [.lit (.bool false)], args := [d1, d2] }
  | _ => none }
def FlightHoldsWrongFalsely : Prop := flightHoldsRow.holds Tryz.pinned (OpenSpec.ofChange flightHoldsWrong)

/-- 'jetwaylaw15.FlightAuto': WHATEVER THE INPUT: true; the input reads as it did. -/
def flightAutoSpec : ChangeSpec := { name := "flightAuto", fn := fun _ => fun
  | [d1, d2, d3] => { results := [.lit (.bool true)], args := [d1, d2, d3] }
  | _ => none }
def flightAutoRow : OpenClaim := { program := "ytaacfjdknlglhaagreatdoor", sum := "ec277208b464c2015437b23ec824928da2e6a3c5c2d03e638e0280734ba1da2b", func := "jetway/jetwaylaw15.FlightAuto", spec := "flightAuto", inPlace := ["math.archFloor", "math.Float64bits", "math.Float64frombits", "math.archTrunc", "slices.overlaps[int]"], unfollowed := true, recurses := true, named := ["internal/strconv.uint64pow10", "math/bits.deBruijn32tab", "math/bits.deBruijn64tab"], apart := false, laid := [("math/bits.deBruijn32tab", laid_math_bits_deBruijn32tab), ("math/bits.deBruijn64tab", laid_math_bits_deBruijn64tab), ("internal/strconv.uint64pow10", laid_internal_strconv_uint64pow10)] }
def FlightAutoSaid : Prop := flightAutoRow.holds Tryz.pinned (OpenSpec.ofChange flightAutoSpec)

/-- ITS FALSE NEIGHBOUR: 'it returns false'. Refute it at one input. -/
def flightAutoWrong : ChangeSpec := { name := "flightAuto", fn := fun _ => fun
  | [d1, d2, d3] => { results := [.lit (.bool false)], args := [d1, d2, d3] }
  | _ => none }
def FlightAutoWrongFalsely : Prop := flightAutoRow.holds Tryz.pinned (OpenSpec.ofChange flightAutoWrong)

/-- 'jetwaylaw15.FlightUnseats': WHATEVER THE INPUT: true; the input reads as it did. -/
def flightUnseatsSpec : ChangeSpec := { name := "flightUnseats", fn := fun _ => fun
  | [d1, d2, d3] => { results := [.lit (.bool true)], args := [d1, d2, d3] }
  | _ => none }
def flightUnseatsRow : OpenClaim := { program := "ytaacfjdknlglhaagreatdoor", sum := "ec277208b464c2015437b23ec824928da2e6a3c5c2d03e638e0280734ba1da2b", func := "jetway/jetwaylaw15.FlightUnseats", spec := "flightUnseats", inPlace := ["math.archFloor", "math.Float64bits", "math.Float64frombits", "math.archTrunc", "slices.overlaps[int]"], unfollowed := true, recurses := true, named := ["internal/strconv.uint64pow10", "math/bits.deBruijn32tab", "math/bits.deBruijn64tab"], apart := false, laid := [("math/bits.deBruijn32tab", laid_math_bits_deBruijn32tab), ("math/bits.deBruijn64tab", laid_math_bits_deBruijn64tab), ("internal/strconv.uint64pow10", laid_internal_strconv_uint64pow10)] }
def FlightUnseatsSaid : Prop := flightUnseatsRow.holds Tryz.pinned (OpenSpec.ofChange flightUnseatsSpec)

/-- ITS FALSE NEIGHBOUR: 'it returns false'. Refute it at one input. -/
def flightUnseatsWrong : ChangeSpec := { name := "flightUnseats", fn := fun _ => fun
  | [d1, d2, d3] => { results := [.lit (.bool false)], args := [d1, d2, d3] }
  | _ => none }
def FlightUnseatsWrongFalsely : Prop := flightUnseatsRow.holds Tryz.pinned (OpenSpec.ofChange flightUnseatsWrong)

/-- 'jetwaylaw15.FlightScripts': WHATEVER THE INPUT: true; the input reads as it did. -/
def flightScriptsSpec : ChangeSpec := { name := "flightScripts", fn := fun _ => fun
  | [d1, d2] => { results := [.lit (.bool true)], args := [d1, d2] }
  | _ => none }
def flightScriptsRow : OpenClaim := { program := "ytaacfjdknlglhaagreatdoor", sum := "ec277208b464c2015437b23ec824928da2e6a3c5c2d03e638e0280734ba1da2b", func := "jetway/jetwaylaw15.FlightScripts", spec := "flightScripts", inPlace := ["math.archFloor", "math.Float64bits", "math.Float64frombits", "math.archTrunc", "slices.overlaps[int]"], unfollowed := true, recurses := true, named := ["internal/strconv.uint64pow10", "math/bits.deBruijn32tab", "math/bits.deBruijn64tab"], apart := false, laid := [("math/bits.deBruijn32tab", laid_math_bits_deBruijn32tab), ("math/bits.deBruijn64tab", laid_math_bits_deBruijn64tab), ("internal/strconv.uint64pow10", laid_internal_strconv_uint64pow10)] }
def FlightScriptsSaid : Prop := flightScriptsRow.holds Tryz.pinned (OpenSpec.ofChange flightScriptsSpec)

/-- ITS FALSE NEIGHBOUR: 'it returns false'. Refute it at one input. -/
def flightScriptsWrong : ChangeSpec := { name := "flightScripts", fn := fun _ => fun
  | [d1, d2] => { results := [.lit (.bool false)], args := [d1, d2] }
  | _ => none }
def FlightScriptsWrongFalsely : Prop := flightScriptsRow.holds Tryz.pinned (OpenSpec.ofChange flightScriptsWrong)

/-- 'jetwaylaw15.FlightBack': WHATEVER THE INPUT: true; the input reads as it did. -/
def flightBackSpec : ChangeSpec := { name := "flightBack", fn := fun _ => fun
  | [d1, d2, d3] => { results := [.lit (.bool true)], args := [d1, d2, d3] }
  | _ => none }
def flightBackRow : OpenClaim := { program := "ytaacfjdknlglhaagreatdoor", sum := "ec277208b464c2015437b23ec824928da2e6a3c5c2d03e638e0280734ba1da2b", func := "jetway/jetwaylaw15.FlightBack", spec := "flightBack", inPlace := ["math.archFloor", "math.Float64bits", "math.Float64frombits", "math.archTrunc", "slices.overlaps[int]"], unfollowed := true, recurses := true, named := ["internal/strconv.uint64pow10", "math/bits.deBruijn32tab", "math/bits.deBruijn64tab"], apart := false, laid := [("math/bits.deBruijn32tab", laid_math_bits_deBruijn32tab), ("math/bits.deBruijn64tab", laid_math_bits_deBruijn64tab), ("internal/strconv.uint64pow10", laid_internal_strconv_uint64pow10)] }
def FlightBackSaid : Prop := flightBackRow.holds Tryz.pinned (OpenSpec.ofChange flightBackSpec)

/-- ITS FALSE NEIGHBOUR: 'it returns false'. Refute it at one input. -/
def flightBackWrong : ChangeSpec := { name := "flightBack", fn := fun _ => fun
  | [d1, d2, d3] => { results := [.lit (.bool false)], args := [d1, d2, d3] }
  | _ => none }
def FlightBackWrongFalsely : Prop := flightBackRow.holds Tryz.pinned (OpenSpec.ofChange flightBackWrong)

/- THE SECOND FORM. 'bulk': how many values and letters a reading holds, each counted each time it is reached (what is shared counts as often as it is met; a slice's spare places count too). A statement '..UptoSaid' is the law's where the arguments, and the package variables that the reading takes, are together of bulk at most 1048576: NARROWER than '..Said'. Prove '..Said' where nothing that the law and all that it calls make is longer than what came in: it says more and counts as full. Else prove '..UptoSaid'. A law counts once. -/
mutual
def uptoBulk {H : Type} : DataW H → Nat
  | .lit (.string bytes) => bytes.length + 1
  | .lit _ => 1
  | .nil => 1
  | .ptr d => uptoBulk d + 1
  | .slice elems spare => uptoBulkAll elems + uptoBulkAll spare + 1
  | .agg parts => uptoBulkAll parts + 1
  | .iface _ d => uptoBulk d + 1
  | .map entries => uptoBulkEntries entries + 1
  | .held _ => 1
def uptoBulkAll {H : Type} : List (DataW H) → Nat
  | [] => 0
  | d :: r => uptoBulk d + uptoBulkAll r
def uptoBulkEntries {H : Type} : List (Lit × DataW H) → Nat
  | [] => 0
  | x :: r => uptoBulkEntry x + uptoBulkEntries r
def uptoBulkEntry {H : Type} : Lit × DataW H → Nat
  | (.string bytes, d) => bytes.length + uptoBulk d + 1
  | (_, d) => uptoBulk d + 1
 end
def uptoSmall : (H : Type) → List (DataW H) → Bool := fun _ ds => decide (uptoBulkAll ds ≤ 1048576)
def OpenSpec.upto (s : _root_.Go.ChangeSpec) : _root_.Go.OpenSpec := { _root_.Go.OpenSpec.ofChange s with cond := some uptoSmall }

/-- 'jetwaylaw15.FlightDecodes', WHERE WHAT IT READS IS OF BULK AT MOST 1048576: true; the input reads as it did. -/
def flightDecodesUptoRow : OpenClaim := { program := "ytaacfjdknlglhaagreatdoor", sum := "ec277208b464c2015437b23ec824928da2e6a3c5c2d03e638e0280734ba1da2b", func := "jetway/jetwaylaw15.FlightDecodes", spec := "flightDecodes", inPlace := ["math.archFloor", "math.Float64bits", "math.Float64frombits", "math.archTrunc", "slices.overlaps[int]"], unfollowed := true, recurses := true, named := ["internal/strconv.uint64pow10", "math/bits.deBruijn32tab", "math/bits.deBruijn64tab"], apart := false, laid := [("math/bits.deBruijn32tab", laid_math_bits_deBruijn32tab), ("math/bits.deBruijn64tab", laid_math_bits_deBruijn64tab), ("internal/strconv.uint64pow10", laid_internal_strconv_uint64pow10)], narrowed := true }
def FlightDecodesUptoSaid : Prop := flightDecodesUptoRow.holds Tryz.pinned (OpenSpec.upto flightDecodesSpec)

/-- 'jetwaylaw15.FlightHolds', WHERE WHAT IT READS IS OF BULK AT MOST 1048576: true; the input reads as it did. -/
def flightHoldsUptoRow : OpenClaim := { program := "ytaacfjdknlglhaagreatdoor", sum := "ec277208b464c2015437b23ec824928da2e6a3c5c2d03e638e0280734ba1da2b", func := "jetway/jetwaylaw15.FlightHolds", spec := "flightHolds", inPlace := ["math.archFloor", "math.Float64bits", "math.Float64frombits", "math.archTrunc", "slices.overlaps[int]"], unfollowed := true, recurses := true, named := ["internal/strconv.uint64pow10", "math/bits.deBruijn32tab", "math/bits.deBruijn64tab"], apart := false, laid := [("math/bits.deBruijn32tab", laid_math_bits_deBruijn32tab), ("math/bits.deBruijn64tab", laid_math_bits_deBruijn64tab), ("internal/strconv.uint64pow10", laid_internal_strconv_uint64pow10)], narrowed := true }
def FlightHoldsUptoSaid : Prop := flightHoldsUptoRow.holds Tryz.pinned (OpenSpec.upto flightHoldsSpec)

/-- 'jetwaylaw15.FlightAuto', WHERE WHAT IT READS IS OF BULK AT MOST 1048576: true; the input reads as it did. -/
def flightAutoUptoRow : OpenClaim := { program := "ytaacfjdknlglhaagreatdoor", sum := "ec277208b464c2015437b23ec824928da2e6a3c5c2d03e638e0280734ba1da2b", func := "jetway/jetwaylaw15.FlightAuto", spec := "flightAuto", inPlace := ["math.archFloor", "math.Float64bits", "math.Float64frombits", "math.archTrunc", "slices.overlaps[int]"], unfollowed := true, recurses := true, named := ["internal/strconv.uint64pow10", "math/bits.deBruijn32tab", "math/bits.deBruijn64tab"], apart := false, laid := [("math/bits.deBruijn32tab", laid_math_bits_deBruijn32tab), ("math/bits.deBruijn64tab", laid_math_bits_deBruijn64tab), ("internal/strconv.uint64pow10", laid_internal_strconv_uint64pow10)], narrowed := true }
def FlightAutoUptoSaid : Prop := flightAutoUptoRow.holds Tryz.pinned (OpenSpec.upto flightAutoSpec)

/-- 'jetwaylaw15.FlightUnseats', WHERE WHAT IT READS IS OF BULK AT MOST 1048576: true; the input reads as it did. -/
def flightUnseatsUptoRow : OpenClaim := { program := "ytaacfjdknlglhaagreatdoor", sum := "ec277208b464c2015437b23ec824928da2e6a3c5c2d03e638e0280734ba1da2b", func := "jetway/jetwaylaw15.FlightUnseats", spec := "flightUnseats", inPlace := ["math.archFloor", "math.Float64bits", "math.Float64frombits", "math.archTrunc", "slices.overlaps[int]"], unfollowed := true, recurses := true, named := ["internal/strconv.uint64pow10", "math/bits.deBruijn32tab", "math/bits.deBruijn64tab"], apart := false, laid := [("math/bits.deBruijn32tab", laid_math_bits_deBruijn32tab), ("math/bits.deBruijn64tab", laid_math_bits_deBruijn64tab), ("internal/strconv.uint64pow10", laid_internal_strconv_uint64pow10)], narrowed := true }
def FlightUnseatsUptoSaid : Prop := flightUnseatsUptoRow.holds Tryz.pinned (OpenSpec.upto flightUnseatsSpec)

/-- 'jetwaylaw15.FlightScripts', WHERE WHAT IT READS IS OF BULK AT MOST 1048576: true; the input reads as it did. -/
def flightScriptsUptoRow : OpenClaim := { program := "ytaacfjdknlglhaagreatdoor", sum := "ec277208b464c2015437b23ec824928da2e6a3c5c2d03e638e0280734ba1da2b", func := "jetway/jetwaylaw15.FlightScripts", spec := "flightScripts", inPlace := ["math.archFloor", "math.Float64bits", "math.Float64frombits", "math.archTrunc", "slices.overlaps[int]"], unfollowed := true, recurses := true, named := ["internal/strconv.uint64pow10", "math/bits.deBruijn32tab", "math/bits.deBruijn64tab"], apart := false, laid := [("math/bits.deBruijn32tab", laid_math_bits_deBruijn32tab), ("math/bits.deBruijn64tab", laid_math_bits_deBruijn64tab), ("internal/strconv.uint64pow10", laid_internal_strconv_uint64pow10)], narrowed := true }
def FlightScriptsUptoSaid : Prop := flightScriptsUptoRow.holds Tryz.pinned (OpenSpec.upto flightScriptsSpec)

/-- 'jetwaylaw15.FlightBack', WHERE WHAT IT READS IS OF BULK AT MOST 1048576: true; the input reads as it did. -/
def flightBackUptoRow : OpenClaim := { program := "ytaacfjdknlglhaagreatdoor", sum := "ec277208b464c2015437b23ec824928da2e6a3c5c2d03e638e0280734ba1da2b", func := "jetway/jetwaylaw15.FlightBack", spec := "flightBack", inPlace := ["math.archFloor", "math.Float64bits", "math.Float64frombits", "math.archTrunc", "slices.overlaps[int]"], unfollowed := true, recurses := true, named := ["internal/strconv.uint64pow10", "math/bits.deBruijn32tab", "math/bits.deBruijn64tab"], apart := false, laid := [("math/bits.deBruijn32tab", laid_math_bits_deBruijn32tab), ("math/bits.deBruijn64tab", laid_math_bits_deBruijn64tab), ("internal/strconv.uint64pow10", laid_internal_strconv_uint64pow10)], narrowed := true }
def FlightBackUptoSaid : Prop := flightBackUptoRow.holds Tryz.pinned (OpenSpec.upto flightBackSpec)

end Rows
end Go.Proofs.YtaacfjdknlglhaaGreatDoor
