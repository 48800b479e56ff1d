/-
  NARROWER THAN 'FOR EVERY INPUT', by the rows' own cells (each row's printed sentence says how): BookingScripts: laid · SessionOnce: laid · SessionScripts: laid · SessionLoads: laid · SessionLoaded: laid.
  DERIVED. THE GIVEN ROWS OF THIS SEAT. 5 by the template 'for every input the law returns true; each argument reads behind the call as it read before'; 0 by the template 'total and deterministic' (their statements: YtlplemdmegpoeaaGreatDoorTotals.lean).
  GIVEN WITH THE SEED: the statements are not yours to turn. If you find one false, say at which input.
  Laid BY PROGRAM, IN A SANDBOX (cutbox-rows.mjs): the forced cells as the released guide's own fill.sh prints them over the translation 5b2ab9d4b5409757… (all of the seat's roots in one cut). By AI agents, Wed Nov 11 2026. No macro, syntax, notation, axiom, sorry.
-/
import Derived.Test.YtlplemdmegpoeaaGreatDoorChecked
import GoSem.Claim
import GoSem.ClaimJoined
import GoSem.ClaimMapViews
import Derived.JoinedTies
import Derived.KernelRfl
namespace Go.Proofs.YtlplemdmegpoeaaGreatDoor
/- THE CELL 'sum', in the pinned program and in every row, IS THE sha256 OF THE DUMP (.gsa) THAT YtlplemdmegpoeaaGreatDoorProg.lean LOADS. Nothing in Lean hashes anything: it is a label: what it is worth is what the hold of that sum in a sandbox is worth. -/
noncomputable def Tryz.pinned : Pinned := { name := "ytlplemdmegpoeaagreatdoor", sum := "5b2ab9d4b54097571aa54edc65ebd12f455fa2d64fcee976686acd822346561c", checked := Tryz.checked }
namespace Rows
def none {H : Type} : Left H := { results := [], args := [] }

/- WHAT THE LISTED PACKAGE-LEVEL VARIABLES READ AS WHEN THE CALL BEGINS. Each datum BY PROGRAM (the guide's laid-datum.mjs) off the statement by which the dump's own 'gosem.cut.vars' lays the variable. In a bare row this is a premise. The card (YtlplemdmegpoeaaGreatDoorCards.lean) ties it to the program's text. -/
def laid_math_bits_deBruijn32tab {H : Type} : DataW H := .agg [.lit (.int .u8 0), .lit (.int .u8 1), .lit (.int .u8 28), .lit (.int .u8 2), .lit (.int .u8 29), .lit (.int .u8 14), .lit (.int .u8 24), .lit (.int .u8 3), .lit (.int .u8 30), .lit (.int .u8 22), .lit (.int .u8 20), .lit (.int .u8 15), .lit (.int .u8 25), .lit (.int .u8 17), .lit (.int .u8 4), .lit (.int .u8 8), .lit (.int .u8 31), .lit (.int .u8 27), .lit (.int .u8 13), .lit (.int .u8 23), .lit (.int .u8 21), .lit (.int .u8 19), .lit (.int .u8 16), .lit (.int .u8 7), .lit (.int .u8 26), .lit (.int .u8 12), .lit (.int .u8 18), .lit (.int .u8 6), .lit (.int .u8 11), .lit (.int .u8 5), .lit (.int .u8 10), .lit (.int .u8 9)]
def laid_math_bits_deBruijn64tab {H : Type} : DataW H := .agg [.lit (.int .u8 0), .lit (.int .u8 1), .lit (.int .u8 56), .lit (.int .u8 2), .lit (.int .u8 57), .lit (.int .u8 49), .lit (.int .u8 28), .lit (.int .u8 3), .lit (.int .u8 61), .lit (.int .u8 58), .lit (.int .u8 42), .lit (.int .u8 50), .lit (.int .u8 38), .lit (.int .u8 29), .lit (.int .u8 17), .lit (.int .u8 4), .lit (.int .u8 62), .lit (.int .u8 47), .lit (.int .u8 59), .lit (.int .u8 36), .lit (.int .u8 45), .lit (.int .u8 43), .lit (.int .u8 51), .lit (.int .u8 22), .lit (.int .u8 53), .lit (.int .u8 39), .lit (.int .u8 33), .lit (.int .u8 30), .lit (.int .u8 24), .lit (.int .u8 18), .lit (.int .u8 12), .lit (.int .u8 5), .lit (.int .u8 63), .lit (.int .u8 55), .lit (.int .u8 48), .lit (.int .u8 27), .lit (.int .u8 60), .lit (.int .u8 41), .lit (.int .u8 37), .lit (.int .u8 16), .lit (.int .u8 46), .lit (.int .u8 35), .lit (.int .u8 44), .lit (.int .u8 21), .lit (.int .u8 52), .lit (.int .u8 32), .lit (.int .u8 23), .lit (.int .u8 11), .lit (.int .u8 54), .lit (.int .u8 26), .lit (.int .u8 40), .lit (.int .u8 15), .lit (.int .u8 34), .lit (.int .u8 20), .lit (.int .u8 31), .lit (.int .u8 10), .lit (.int .u8 25), .lit (.int .u8 14), .lit (.int .u8 19), .lit (.int .u8 9), .lit (.int .u8 13), .lit (.int .u8 8), .lit (.int .u8 7), .lit (.int .u8 6)]
def laid_internal_strconv_uint64pow10 {H : Type} : DataW H := .agg [.lit (.int .u64 1), .lit (.int .u64 10), .lit (.int .u64 100), .lit (.int .u64 1000), .lit (.int .u64 10000), .lit (.int .u64 100000), .lit (.int .u64 1000000), .lit (.int .u64 10000000), .lit (.int .u64 100000000), .lit (.int .u64 1000000000), .lit (.int .u64 10000000000), .lit (.int .u64 100000000000), .lit (.int .u64 1000000000000), .lit (.int .u64 10000000000000), .lit (.int .u64 100000000000000), .lit (.int .u64 1000000000000000), .lit (.int .u64 10000000000000000), .lit (.int .u64 100000000000000000), .lit (.int .u64 1000000000000000000), .lit (.int .u64 10000000000000000000)]

/-- 'jetwaylaw18.BookingScripts': WHATEVER THE INPUT: true; the input reads as it did. -/
def bookingScriptsSpec : ChangeSpec := { name := "bookingScripts", fn := fun _ => fun
  | [d] => { results := [.lit (.bool true)], args := [d] }
  | _ => none }
def bookingScriptsRow : OpenClaim := { program := "ytlplemdmegpoeaagreatdoor", sum := "5b2ab9d4b54097571aa54edc65ebd12f455fa2d64fcee976686acd822346561c", func := "jetway/jetwaylaw18.BookingScripts", spec := "bookingScripts", inPlace := ["math.archFloor", "math.Float64bits", "math.Float64frombits", "math.archTrunc", "slices.overlaps[jetway/queue.waiter]", "internal/bytealg.IndexByteString", "slices.overlaps[int]"], unfollowed := true, recurses := true, named := ["internal/strconv.uint64pow10", "math/bits.deBruijn32tab", "math/bits.deBruijn64tab"], apart := false, laid := [("math/bits.deBruijn32tab", laid_math_bits_deBruijn32tab), ("math/bits.deBruijn64tab", laid_math_bits_deBruijn64tab), ("internal/strconv.uint64pow10", laid_internal_strconv_uint64pow10)] }
def BookingScriptsSaid : Prop := bookingScriptsRow.holds Tryz.pinned (OpenSpec.ofChange bookingScriptsSpec)

/-- ITS FALSE NEIGHBOUR: 'it returns false'. Refute it at one input. -/
def bookingScriptsWrong : ChangeSpec := { name := "bookingScripts", fn := fun _ => fun
  | [d] => { results := [.lit (.bool false)], args := [d] }
  | _ => none }
def BookingScriptsWrongFalsely : Prop := bookingScriptsRow.holds Tryz.pinned (OpenSpec.ofChange bookingScriptsWrong)

/-- 'jetwaylaw19.SessionOnce': WHATEVER THE INPUT: true; the input reads as it did. -/
def sessionOnceSpec : ChangeSpec := { name := "sessionOnce", fn := fun _ => fun
  | [d1, d2, d3] => { results := [.lit (.bool true)], args := [d1, d2, d3] }
  | _ => none }
def sessionOnceRow : OpenClaim := { program := "ytlplemdmegpoeaagreatdoor", sum := "5b2ab9d4b54097571aa54edc65ebd12f455fa2d64fcee976686acd822346561c", func := "jetway/jetwaylaw19.SessionOnce", spec := "sessionOnce", inPlace := ["math.archFloor", "math.Float64bits", "math.Float64frombits", "math.archTrunc", "slices.overlaps[jetway/queue.waiter]", "internal/bytealg.IndexByteString", "slices.overlaps[int]"], unfollowed := true, recurses := true, named := ["internal/strconv.uint64pow10", "math/bits.deBruijn32tab", "math/bits.deBruijn64tab"], apart := false, laid := [("math/bits.deBruijn32tab", laid_math_bits_deBruijn32tab), ("math/bits.deBruijn64tab", laid_math_bits_deBruijn64tab), ("internal/strconv.uint64pow10", laid_internal_strconv_uint64pow10)] }
def SessionOnceSaid : Prop := sessionOnceRow.holds Tryz.pinned (OpenSpec.ofChange sessionOnceSpec)

/-- ITS FALSE NEIGHBOUR: 'it returns false'. Refute it at one input. -/
def sessionOnceWrong : ChangeSpec := { name := "sessionOnce", fn := fun _ => fun
  | [d1, d2, d3] => { results := [.lit (.bool false)], args := [d1, d2, d3] }
  | _ => none }
def SessionOnceWrongFalsely : Prop := sessionOnceRow.holds Tryz.pinned (OpenSpec.ofChange sessionOnceWrong)

/-- 'jetwaylaw19.SessionScripts': WHATEVER THE INPUT: true; the input reads as it did. -/
def sessionScriptsSpec : ChangeSpec := { name := "sessionScripts", fn := fun _ => fun
  | [d] => { results := [.lit (.bool true)], args := [d] }
  | _ => none }
def sessionScriptsRow : OpenClaim := { program := "ytlplemdmegpoeaagreatdoor", sum := "5b2ab9d4b54097571aa54edc65ebd12f455fa2d64fcee976686acd822346561c", func := "jetway/jetwaylaw19.SessionScripts", spec := "sessionScripts", inPlace := ["math.archFloor", "math.Float64bits", "math.Float64frombits", "math.archTrunc", "slices.overlaps[jetway/queue.waiter]", "internal/bytealg.IndexByteString", "slices.overlaps[int]"], unfollowed := true, recurses := true, named := ["internal/strconv.uint64pow10", "math/bits.deBruijn32tab", "math/bits.deBruijn64tab"], apart := false, laid := [("math/bits.deBruijn32tab", laid_math_bits_deBruijn32tab), ("math/bits.deBruijn64tab", laid_math_bits_deBruijn64tab), ("internal/strconv.uint64pow10", laid_internal_strconv_uint64pow10)] }
def SessionScriptsSaid : Prop := sessionScriptsRow.holds Tryz.pinned (OpenSpec.ofChange sessionScriptsSpec)

/-- ITS FALSE NEIGHBOUR: 'it returns false'. Refute it at one input. -/
def sessionScriptsWrong : ChangeSpec := { name := "sessionScripts", fn := fun _ => fun
  | [d] => { results := [.lit (.bool false)], args := [d] }
  | _ => none }
def SessionScriptsWrongFalsely : Prop := sessionScriptsRow.holds Tryz.pinned (OpenSpec.ofChange sessionScriptsWrong)

/-- 'jetwaylaw19.SessionLoads': WHATEVER THE INPUT: true; the input reads as it did. -/
def sessionLoadsSpec : ChangeSpec := { name := "sessionLoads", fn := fun _ => fun
  | [d] => { results := [.lit (.bool true)], args := [d] }
  | _ => none }
def sessionLoadsRow : OpenClaim := { program := "ytlplemdmegpoeaagreatdoor", sum := "5b2ab9d4b54097571aa54edc65ebd12f455fa2d64fcee976686acd822346561c", func := "jetway/jetwaylaw19.SessionLoads", spec := "sessionLoads", inPlace := ["math.archFloor", "math.Float64bits", "math.Float64frombits", "math.archTrunc", "slices.overlaps[jetway/queue.waiter]", "internal/bytealg.IndexByteString", "slices.overlaps[int]"], unfollowed := true, recurses := true, named := ["internal/strconv.uint64pow10", "math/bits.deBruijn32tab", "math/bits.deBruijn64tab"], apart := false, laid := [("math/bits.deBruijn32tab", laid_math_bits_deBruijn32tab), ("math/bits.deBruijn64tab", laid_math_bits_deBruijn64tab), ("internal/strconv.uint64pow10", laid_internal_strconv_uint64pow10)] }
def SessionLoadsSaid : Prop := sessionLoadsRow.holds Tryz.pinned (OpenSpec.ofChange sessionLoadsSpec)

/-- ITS FALSE NEIGHBOUR: 'it returns false'. Refute it at one input. -/
def sessionLoadsWrong : ChangeSpec := { name := "sessionLoads", fn := fun _ => fun
  | [d] => { results := [.lit (.bool false)], args := [d] }
  | _ => none }
def SessionLoadsWrongFalsely : Prop := sessionLoadsRow.holds Tryz.pinned (OpenSpec.ofChange sessionLoadsWrong)

/-- 'jetwaylaw19.SessionLoaded': WHATEVER THE INPUT: true; the input reads as it did. -/
def sessionLoadedSpec : ChangeSpec := { name := "sessionLoaded", fn := fun _ => fun
  | [d1, d2] => { results := [.lit (.bool true)], args := [d1, d2] }
  | _ => none }
def sessionLoadedRow : OpenClaim := { program := "ytlplemdmegpoeaagreatdoor", sum := "5b2ab9d4b54097571aa54edc65ebd12f455fa2d64fcee976686acd822346561c", func := "jetway/jetwaylaw19.SessionLoaded", spec := "sessionLoaded", inPlace := ["math.archFloor", "math.Float64bits", "math.Float64frombits", "math.archTrunc", "slices.overlaps[jetway/queue.waiter]", "internal/bytealg.IndexByteString", "slices.overlaps[int]"], unfollowed := true, recurses := true, named := ["internal/strconv.uint64pow10", "math/bits.deBruijn32tab", "math/bits.deBruijn64tab"], apart := false, laid := [("math/bits.deBruijn32tab", laid_math_bits_deBruijn32tab), ("math/bits.deBruijn64tab", laid_math_bits_deBruijn64tab), ("internal/strconv.uint64pow10", laid_internal_strconv_uint64pow10)] }
def SessionLoadedSaid : Prop := sessionLoadedRow.holds Tryz.pinned (OpenSpec.ofChange sessionLoadedSpec)

/-- ITS FALSE NEIGHBOUR: 'it returns false'. Refute it at one input. -/
def sessionLoadedWrong : ChangeSpec := { name := "sessionLoaded", fn := fun _ => fun
  | [d1, d2] => { results := [.lit (.bool false)], args := [d1, d2] }
  | _ => none }
def SessionLoadedWrongFalsely : Prop := sessionLoadedRow.holds Tryz.pinned (OpenSpec.ofChange sessionLoadedWrong)

/- THE SECOND FORM. 'bulk': how many values and letters a reading holds, each counted each time it is reached (what is shared counts as often as it is met; a slice's spare places count too). A statement '..UptoSaid' is the law's where the arguments, and the package variables that the reading takes, are together of bulk at most 1048576: NARROWER than '..Said'. Prove '..Said' where nothing that the law and all that it calls make is longer than what came in: it says more and counts as full. Else prove '..UptoSaid'. A law counts once. -/
mutual
def uptoBulk {H : Type} : DataW H → Nat
  | .lit (.string bytes) => bytes.length + 1
  | .lit _ => 1
  | .nil => 1
  | .ptr d => uptoBulk d + 1
  | .slice elems spare => uptoBulkAll elems + uptoBulkAll spare + 1
  | .agg parts => uptoBulkAll parts + 1
  | .iface _ d => uptoBulk d + 1
  | .map entries => uptoBulkEntries entries + 1
  | .held _ => 1
def uptoBulkAll {H : Type} : List (DataW H) → Nat
  | [] => 0
  | d :: r => uptoBulk d + uptoBulkAll r
def uptoBulkEntries {H : Type} : List (Lit × DataW H) → Nat
  | [] => 0
  | x :: r => uptoBulkEntry x + uptoBulkEntries r
def uptoBulkEntry {H : Type} : Lit × DataW H → Nat
  | (.string bytes, d) => bytes.length + uptoBulk d + 1
  | (_, d) => uptoBulk d + 1
 end
def uptoSmall : (H : Type) → List (DataW H) → Bool := fun _ ds => decide (uptoBulkAll ds ≤ 1048576)
def OpenSpec.upto (s : _root_.Go.ChangeSpec) : _root_.Go.OpenSpec := { _root_.Go.OpenSpec.ofChange s with cond := some uptoSmall }

/-- 'jetwaylaw18.BookingScripts', WHERE WHAT IT READS IS OF BULK AT MOST 1048576: true; the input reads as it did. -/
def bookingScriptsUptoRow : OpenClaim := { program := "ytlplemdmegpoeaagreatdoor", sum := "5b2ab9d4b54097571aa54edc65ebd12f455fa2d64fcee976686acd822346561c", func := "jetway/jetwaylaw18.BookingScripts", spec := "bookingScripts", inPlace := ["math.archFloor", "math.Float64bits", "math.Float64frombits", "math.archTrunc", "slices.overlaps[jetway/queue.waiter]", "internal/bytealg.IndexByteString", "slices.overlaps[int]"], unfollowed := true, recurses := true, named := ["internal/strconv.uint64pow10", "math/bits.deBruijn32tab", "math/bits.deBruijn64tab"], apart := false, laid := [("math/bits.deBruijn32tab", laid_math_bits_deBruijn32tab), ("math/bits.deBruijn64tab", laid_math_bits_deBruijn64tab), ("internal/strconv.uint64pow10", laid_internal_strconv_uint64pow10)], narrowed := true }
def BookingScriptsUptoSaid : Prop := bookingScriptsUptoRow.holds Tryz.pinned (OpenSpec.upto bookingScriptsSpec)

/-- 'jetwaylaw19.SessionOnce', WHERE WHAT IT READS IS OF BULK AT MOST 1048576: true; the input reads as it did. -/
def sessionOnceUptoRow : OpenClaim := { program := "ytlplemdmegpoeaagreatdoor", sum := "5b2ab9d4b54097571aa54edc65ebd12f455fa2d64fcee976686acd822346561c", func := "jetway/jetwaylaw19.SessionOnce", spec := "sessionOnce", inPlace := ["math.archFloor", "math.Float64bits", "math.Float64frombits", "math.archTrunc", "slices.overlaps[jetway/queue.waiter]", "internal/bytealg.IndexByteString", "slices.overlaps[int]"], unfollowed := true, recurses := true, named := ["internal/strconv.uint64pow10", "math/bits.deBruijn32tab", "math/bits.deBruijn64tab"], apart := false, laid := [("math/bits.deBruijn32tab", laid_math_bits_deBruijn32tab), ("math/bits.deBruijn64tab", laid_math_bits_deBruijn64tab), ("internal/strconv.uint64pow10", laid_internal_strconv_uint64pow10)], narrowed := true }
def SessionOnceUptoSaid : Prop := sessionOnceUptoRow.holds Tryz.pinned (OpenSpec.upto sessionOnceSpec)

/-- 'jetwaylaw19.SessionScripts', WHERE WHAT IT READS IS OF BULK AT MOST 1048576: true; the input reads as it did. -/
def sessionScriptsUptoRow : OpenClaim := { program := "ytlplemdmegpoeaagreatdoor", sum := "5b2ab9d4b54097571aa54edc65ebd12f455fa2d64fcee976686acd822346561c", func := "jetway/jetwaylaw19.SessionScripts", spec := "sessionScripts", inPlace := ["math.archFloor", "math.Float64bits", "math.Float64frombits", "math.archTrunc", "slices.overlaps[jetway/queue.waiter]", "internal/bytealg.IndexByteString", "slices.overlaps[int]"], unfollowed := true, recurses := true, named := ["internal/strconv.uint64pow10", "math/bits.deBruijn32tab", "math/bits.deBruijn64tab"], apart := false, laid := [("math/bits.deBruijn32tab", laid_math_bits_deBruijn32tab), ("math/bits.deBruijn64tab", laid_math_bits_deBruijn64tab), ("internal/strconv.uint64pow10", laid_internal_strconv_uint64pow10)], narrowed := true }
def SessionScriptsUptoSaid : Prop := sessionScriptsUptoRow.holds Tryz.pinned (OpenSpec.upto sessionScriptsSpec)

/-- 'jetwaylaw19.SessionLoads', WHERE WHAT IT READS IS OF BULK AT MOST 1048576: true; the input reads as it did. -/
def sessionLoadsUptoRow : OpenClaim := { program := "ytlplemdmegpoeaagreatdoor", sum := "5b2ab9d4b54097571aa54edc65ebd12f455fa2d64fcee976686acd822346561c", func := "jetway/jetwaylaw19.SessionLoads", spec := "sessionLoads", inPlace := ["math.archFloor", "math.Float64bits", "math.Float64frombits", "math.archTrunc", "slices.overlaps[jetway/queue.waiter]", "internal/bytealg.IndexByteString", "slices.overlaps[int]"], unfollowed := true, recurses := true, named := ["internal/strconv.uint64pow10", "math/bits.deBruijn32tab", "math/bits.deBruijn64tab"], apart := false, laid := [("math/bits.deBruijn32tab", laid_math_bits_deBruijn32tab), ("math/bits.deBruijn64tab", laid_math_bits_deBruijn64tab), ("internal/strconv.uint64pow10", laid_internal_strconv_uint64pow10)], narrowed := true }
def SessionLoadsUptoSaid : Prop := sessionLoadsUptoRow.holds Tryz.pinned (OpenSpec.upto sessionLoadsSpec)

/-- 'jetwaylaw19.SessionLoaded', WHERE WHAT IT READS IS OF BULK AT MOST 1048576: true; the input reads as it did. -/
def sessionLoadedUptoRow : OpenClaim := { program := "ytlplemdmegpoeaagreatdoor", sum := "5b2ab9d4b54097571aa54edc65ebd12f455fa2d64fcee976686acd822346561c", func := "jetway/jetwaylaw19.SessionLoaded", spec := "sessionLoaded", inPlace := ["math.archFloor", "math.Float64bits", "math.Float64frombits", "math.archTrunc", "slices.overlaps[jetway/queue.waiter]", "internal/bytealg.IndexByteString", "slices.overlaps[int]"], unfollowed := true, recurses := true, named := ["internal/strconv.uint64pow10", "math/bits.deBruijn32tab", "math/bits.deBruijn64tab"], apart := false, laid := [("math/bits.deBruijn32tab", laid_math_bits_deBruijn32tab), ("math/bits.deBruijn64tab", laid_math_bits_deBruijn64tab), ("internal/strconv.uint64pow10", laid_internal_strconv_uint64pow10)], narrowed := true }
def SessionLoadedUptoSaid : Prop := sessionLoadedUptoRow.holds Tryz.pinned (OpenSpec.upto sessionLoadedSpec)

end Rows
end Go.Proofs.YtlplemdmegpoeaaGreatDoor
