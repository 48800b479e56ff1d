/-
  No cell of these rows narrows 'for every input' (looked for: loops, veiled, ifaces, maps, wideKeys, modest, calm, conditions, laid).
  DERIVED. THE GIVEN ROWS OF THIS SEAT. 7 by the template 'for every input the law returns true; each argument reads behind the call as it read before'; 0 by the template 'total and deterministic' (their statements: YtjbpncdealpmhaaTotals.lean).
  GIVEN WITH THE SEED: the statements are not yours to turn. If you find one false, say at which input.
  Laid BY PROGRAM, IN A SANDBOX (cutbox-rows.mjs): the forced cells as the released guide's own fill.sh prints them over the translation 844f3dcefa8b730a… (all of the seat's roots in one cut). By AI agents, Wed Nov 11 2026. No macro, syntax, notation, axiom, sorry.
-/
import Derived.Test.YtjbpncdealpmhaaChecked
import GoSem.Claim
import GoSem.ClaimJoined
import GoSem.ClaimMapViews
import Derived.JoinedTies
import Derived.KernelRfl
namespace Go.Proofs.Ytjbpncdealpmhaa
/- THE CELL 'sum', in the pinned program and in every row, IS THE sha256 OF THE DUMP (.gsa) THAT YtjbpncdealpmhaaProg.lean LOADS. Nothing in Lean hashes anything: it is a label: what it is worth is what the hold of that sum in a sandbox is worth. -/
noncomputable def Try.pinned : Pinned := { name := "ytjbpncdealpmhaa", sum := "844f3dcefa8b730a2cd9cd2e2816daaf9de06705290896f2831d0230fce45f5a", checked := Try.checked }
namespace Rows
def none {H : Type} : Left H := { results := [], args := [] }

/-- 'jetwaylaw09.QuorumCounts': WHATEVER THE INPUT: true; the input reads as it did. -/
def quorumCountsSpec : ChangeSpec := { name := "quorumCounts", fn := fun _ => fun
  | [d1, d2] => { results := [.lit (.bool true)], args := [d1, d2] }
  | _ => none }
def quorumCountsRow : OpenClaim := { program := "ytjbpncdealpmhaa", sum := "844f3dcefa8b730a2cd9cd2e2816daaf9de06705290896f2831d0230fce45f5a", func := "jetway/jetwaylaw09.QuorumCounts", spec := "quorumCounts", unfollowed := true, recurses := true, apart := false }
def QuorumCountsSaid : Prop := quorumCountsRow.holds Try.pinned (OpenSpec.ofChange quorumCountsSpec)

/-- ITS FALSE NEIGHBOUR: 'it returns false'. Refute it at one input. -/
def quorumCountsWrong : ChangeSpec := { name := "quorumCounts", fn := fun _ => fun
  | [d1, d2] => { results := [.lit (.bool false)], args := [d1, d2] }
  | _ => none }
def QuorumCountsWrongFalsely : Prop := quorumCountsRow.holds Try.pinned (OpenSpec.ofChange quorumCountsWrong)

/-- 'jetwaylaw09.QuorumMiddles': WHATEVER THE INPUT: true; the input reads as it did. -/
def quorumMiddlesSpec : ChangeSpec := { name := "quorumMiddles", fn := fun _ => fun
  | [d1, d2] => { results := [.lit (.bool true)], args := [d1, d2] }
  | _ => none }
def quorumMiddlesRow : OpenClaim := { program := "ytjbpncdealpmhaa", sum := "844f3dcefa8b730a2cd9cd2e2816daaf9de06705290896f2831d0230fce45f5a", func := "jetway/jetwaylaw09.QuorumMiddles", spec := "quorumMiddles", unfollowed := true, recurses := true, apart := false }
def QuorumMiddlesSaid : Prop := quorumMiddlesRow.holds Try.pinned (OpenSpec.ofChange quorumMiddlesSpec)

/-- ITS FALSE NEIGHBOUR: 'it returns false'. Refute it at one input. -/
def quorumMiddlesWrong : ChangeSpec := { name := "quorumMiddles", fn := fun _ => fun
  | [d1, d2] => { results := [.lit (.bool false)], args := [d1, d2] }
  | _ => none }
def QuorumMiddlesWrongFalsely : Prop := quorumMiddlesRow.holds Try.pinned (OpenSpec.ofChange quorumMiddlesWrong)

/-- 'jetwaylaw09.QuorumRises': WHATEVER THE INPUT: true; the input reads as it did. -/
def quorumRisesSpec : ChangeSpec := { name := "quorumRises", fn := fun _ => fun
  | [d1, d2, d3] => { results := [.lit (.bool true)], args := [d1, d2, d3] }
  | _ => none }
def quorumRisesRow : OpenClaim := { program := "ytjbpncdealpmhaa", sum := "844f3dcefa8b730a2cd9cd2e2816daaf9de06705290896f2831d0230fce45f5a", func := "jetway/jetwaylaw09.QuorumRises", spec := "quorumRises", unfollowed := true, recurses := true, apart := false }
def QuorumRisesSaid : Prop := quorumRisesRow.holds Try.pinned (OpenSpec.ofChange quorumRisesSpec)

/-- ITS FALSE NEIGHBOUR: 'it returns false'. Refute it at one input. -/
def quorumRisesWrong : ChangeSpec := { name := "quorumRises", fn := fun _ => fun
  | [d1, d2, d3] => { results := [.lit (.bool false)], args := [d1, d2, d3] }
  | _ => none }
def QuorumRisesWrongFalsely : Prop := quorumRisesRow.holds Try.pinned (OpenSpec.ofChange quorumRisesWrong)

/-- 'jetwaylaw09.QuorumOnce': WHATEVER THE INPUT: true; the input reads as it did. -/
def quorumOnceSpec : ChangeSpec := { name := "quorumOnce", fn := fun _ => fun
  | [d1, d2, d3] => { results := [.lit (.bool true)], args := [d1, d2, d3] }
  | _ => none }
def quorumOnceRow : OpenClaim := { program := "ytjbpncdealpmhaa", sum := "844f3dcefa8b730a2cd9cd2e2816daaf9de06705290896f2831d0230fce45f5a", func := "jetway/jetwaylaw09.QuorumOnce", spec := "quorumOnce", unfollowed := true, recurses := true, apart := false }
def QuorumOnceSaid : Prop := quorumOnceRow.holds Try.pinned (OpenSpec.ofChange quorumOnceSpec)

/-- ITS FALSE NEIGHBOUR: 'it returns false'. Refute it at one input. -/
def quorumOnceWrong : ChangeSpec := { name := "quorumOnce", fn := fun _ => fun
  | [d1, d2, d3] => { results := [.lit (.bool false)], args := [d1, d2, d3] }
  | _ => none }
def QuorumOnceWrongFalsely : Prop := quorumOnceRow.holds Try.pinned (OpenSpec.ofChange quorumOnceWrong)

/-- 'jetwaylaw09.QuorumChanges': WHATEVER THE INPUT: true; the input reads as it did. -/
def quorumChangesSpec : ChangeSpec := { name := "quorumChanges", fn := fun _ => fun
  | [d1, d2, d3] => { results := [.lit (.bool true)], args := [d1, d2, d3] }
  | _ => none }
def quorumChangesRow : OpenClaim := { program := "ytjbpncdealpmhaa", sum := "844f3dcefa8b730a2cd9cd2e2816daaf9de06705290896f2831d0230fce45f5a", func := "jetway/jetwaylaw09.QuorumChanges", spec := "quorumChanges", unfollowed := true, recurses := true, apart := false }
def QuorumChangesSaid : Prop := quorumChangesRow.holds Try.pinned (OpenSpec.ofChange quorumChangesSpec)

/-- ITS FALSE NEIGHBOUR: 'it returns false'. Refute it at one input. -/
def quorumChangesWrong : ChangeSpec := { name := "quorumChanges", fn := fun _ => fun
  | [d1, d2, d3] => { results := [.lit (.bool false)], args := [d1, d2, d3] }
  | _ => none }
def QuorumChangesWrongFalsely : Prop := quorumChangesRow.holds Try.pinned (OpenSpec.ofChange quorumChangesWrong)

/-- 'jetwaylaw09.QuorumUndo': WHATEVER THE INPUT: true; the input reads as it did. -/
def quorumUndoSpec : ChangeSpec := { name := "quorumUndo", fn := fun _ => fun
  | [d1, d2] => { results := [.lit (.bool true)], args := [d1, d2] }
  | _ => none }
def quorumUndoRow : OpenClaim := { program := "ytjbpncdealpmhaa", sum := "844f3dcefa8b730a2cd9cd2e2816daaf9de06705290896f2831d0230fce45f5a", func := "jetway/jetwaylaw09.QuorumUndo", spec := "quorumUndo", unfollowed := true, recurses := true, apart := false }
def QuorumUndoSaid : Prop := quorumUndoRow.holds Try.pinned (OpenSpec.ofChange quorumUndoSpec)

/-- ITS FALSE NEIGHBOUR: 'it returns false'. Refute it at one input. -/
def quorumUndoWrong : ChangeSpec := { name := "quorumUndo", fn := fun _ => fun
  | [d1, d2] => { results := [.lit (.bool false)], args := [d1, d2] }
  | _ => none }
def QuorumUndoWrongFalsely : Prop := quorumUndoRow.holds Try.pinned (OpenSpec.ofChange quorumUndoWrong)

/-- 'jetwaylaw09.QuorumMeets': WHATEVER THE INPUT: true; the input reads as it did. -/
def quorumMeetsSpec : ChangeSpec := { name := "quorumMeets", fn := fun _ => fun
  | [d1, d2, d3] => { results := [.lit (.bool true)], args := [d1, d2, d3] }
  | _ => none }
def quorumMeetsRow : OpenClaim := { program := "ytjbpncdealpmhaa", sum := "844f3dcefa8b730a2cd9cd2e2816daaf9de06705290896f2831d0230fce45f5a", func := "jetway/jetwaylaw09.QuorumMeets", spec := "quorumMeets", unfollowed := true, recurses := true, apart := false }
def QuorumMeetsSaid : Prop := quorumMeetsRow.holds Try.pinned (OpenSpec.ofChange quorumMeetsSpec)

/-- ITS FALSE NEIGHBOUR: 'it returns false'. Refute it at one input. -/
def quorumMeetsWrong : ChangeSpec := { name := "quorumMeets", fn := fun _ => fun
  | [d1, d2, d3] => { results := [.lit (.bool false)], args := [d1, d2, d3] }
  | _ => none }
def QuorumMeetsWrongFalsely : Prop := quorumMeetsRow.holds Try.pinned (OpenSpec.ofChange quorumMeetsWrong)

/- THE SECOND FORM. 'bulk': how many values and letters a reading holds, each counted each time it is reached (what is shared counts as often as it is met; a slice's spare places count too). A statement '..UptoSaid' is the law's where the arguments, and the package variables that the reading takes, are together of bulk at most 1048576: NARROWER than '..Said'. Prove '..Said' where nothing that the law and all that it calls make is longer than what came in: it says more and counts as full. Else prove '..UptoSaid'. A law counts once. -/
mutual
def uptoBulk {H : Type} : DataW H → Nat
  | .lit (.string bytes) => bytes.length + 1
  | .lit _ => 1
  | .nil => 1
  | .ptr d => uptoBulk d + 1
  | .slice elems spare => uptoBulkAll elems + uptoBulkAll spare + 1
  | .agg parts => uptoBulkAll parts + 1
  | .iface _ d => uptoBulk d + 1
  | .map entries => uptoBulkEntries entries + 1
  | .held _ => 1
def uptoBulkAll {H : Type} : List (DataW H) → Nat
  | [] => 0
  | d :: r => uptoBulk d + uptoBulkAll r
def uptoBulkEntries {H : Type} : List (Lit × DataW H) → Nat
  | [] => 0
  | x :: r => uptoBulkEntry x + uptoBulkEntries r
def uptoBulkEntry {H : Type} : Lit × DataW H → Nat
  | (.string bytes, d) => bytes.length + uptoBulk d + 1
  | (_, d) => uptoBulk d + 1
 end
def uptoSmall : (H : Type) → List (DataW H) → Bool := fun _ ds => decide (uptoBulkAll ds ≤ 1048576)
def OpenSpec.upto (s : _root_.Go.ChangeSpec) : _root_.Go.OpenSpec := { _root_.Go.OpenSpec.ofChange s with cond := some uptoSmall }

/-- 'jetwaylaw09.QuorumCounts', WHERE WHAT IT READS IS OF BULK AT MOST 1048576: true; the input reads as it did. -/
def quorumCountsUptoRow : OpenClaim := { program := "ytjbpncdealpmhaa", sum := "844f3dcefa8b730a2cd9cd2e2816daaf9de06705290896f2831d0230fce45f5a", func := "jetway/jetwaylaw09.QuorumCounts", spec := "quorumCounts", unfollowed := true, recurses := true, apart := false, narrowed := true }
def QuorumCountsUptoSaid : Prop := quorumCountsUptoRow.holds Try.pinned (OpenSpec.upto quorumCountsSpec)

/-- 'jetwaylaw09.QuorumMiddles', WHERE WHAT IT READS IS OF BULK AT MOST 1048576: true; the input reads as it did. -/
def quorumMiddlesUptoRow : OpenClaim := { program := "ytjbpncdealpmhaa", sum := "844f3dcefa8b730a2cd9cd2e2816daaf9de06705290896f2831d0230fce45f5a", func := "jetway/jetwaylaw09.QuorumMiddles", spec := "quorumMiddles", unfollowed := true, recurses := true, apart := false, narrowed := true }
def QuorumMiddlesUptoSaid : Prop := quorumMiddlesUptoRow.holds Try.pinned (OpenSpec.upto quorumMiddlesSpec)

/-- 'jetwaylaw09.QuorumRises', WHERE WHAT IT READS IS OF BULK AT MOST 1048576: true; the input reads as it did. -/
def quorumRisesUptoRow : OpenClaim := { program := "ytjbpncdealpmhaa", sum := "844f3dcefa8b730a2cd9cd2e2816daaf9de06705290896f2831d0230fce45f5a", func := "jetway/jetwaylaw09.QuorumRises", spec := "quorumRises", unfollowed := true, recurses := true, apart := false, narrowed := true }
def QuorumRisesUptoSaid : Prop := quorumRisesUptoRow.holds Try.pinned (OpenSpec.upto quorumRisesSpec)

/-- 'jetwaylaw09.QuorumOnce', WHERE WHAT IT READS IS OF BULK AT MOST 1048576: true; the input reads as it did. -/
def quorumOnceUptoRow : OpenClaim := { program := "ytjbpncdealpmhaa", sum := "844f3dcefa8b730a2cd9cd2e2816daaf9de06705290896f2831d0230fce45f5a", func := "jetway/jetwaylaw09.QuorumOnce", spec := "quorumOnce", unfollowed := true, recurses := true, apart := false, narrowed := true }
def QuorumOnceUptoSaid : Prop := quorumOnceUptoRow.holds Try.pinned (OpenSpec.upto quorumOnceSpec)

/-- 'jetwaylaw09.QuorumChanges', WHERE WHAT IT READS IS OF BULK AT MOST 1048576: true; the input reads as it did. -/
def quorumChangesUptoRow : OpenClaim := { program := "ytjbpncdealpmhaa", sum := "844f3dcefa8b730a2cd9cd2e2816daaf9de06705290896f2831d0230fce45f5a", func := "jetway/jetwaylaw09.QuorumChanges", spec := "quorumChanges", unfollowed := true, recurses := true, apart := false, narrowed := true }
def QuorumChangesUptoSaid : Prop := quorumChangesUptoRow.holds Try.pinned (OpenSpec.upto quorumChangesSpec)

/-- 'jetwaylaw09.QuorumUndo', WHERE WHAT IT READS IS OF BULK AT MOST 1048576: true; the input reads as it did. -/
def quorumUndoUptoRow : OpenClaim := { program := "ytjbpncdealpmhaa", sum := "844f3dcefa8b730a2cd9cd2e2816daaf9de06705290896f2831d0230fce45f5a", func := "jetway/jetwaylaw09.QuorumUndo", spec := "quorumUndo", unfollowed := true, recurses := true, apart := false, narrowed := true }
def QuorumUndoUptoSaid : Prop := quorumUndoUptoRow.holds Try.pinned (OpenSpec.upto quorumUndoSpec)

/-- 'jetwaylaw09.QuorumMeets', WHERE WHAT IT READS IS OF BULK AT MOST 1048576: true; the input reads as it did. -/
def quorumMeetsUptoRow : OpenClaim := { program := "ytjbpncdealpmhaa", sum := "844f3dcefa8b730a2cd9cd2e2816daaf9de06705290896f2831d0230fce45f5a", func := "jetway/jetwaylaw09.QuorumMeets", spec := "quorumMeets", unfollowed := true, recurses := true, apart := false, narrowed := true }
def QuorumMeetsUptoSaid : Prop := quorumMeetsUptoRow.holds Try.pinned (OpenSpec.upto quorumMeetsSpec)

end Rows
end Go.Proofs.Ytjbpncdealpmhaa
