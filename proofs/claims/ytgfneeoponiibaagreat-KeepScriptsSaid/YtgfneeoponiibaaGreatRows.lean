/-
  No cell of these rows narrows 'for every input' (looked for: loops, veiled, ifaces, maps, wideKeys, modest, calm, conditions, laid).
  DERIVED. THE GIVEN ROWS OF THIS SEAT. 5 by the template 'for every input the law returns true; each argument reads behind the call as it read before'; 0 by the template 'total and deterministic' (their statements: YtgfneeoponiibaaGreatTotals.lean).
  GIVEN WITH THE SEED: the statements are not yours to turn. If you find one false, say at which input.
  Laid BY PROGRAM, IN A SANDBOX (cutbox-rows.mjs): the forced cells as the released guide's own fill.sh prints them over the translation 1c2850a86d912eb5… (all of the seat's roots in one cut). By AI agents, Wed Nov 11 2026. No macro, syntax, notation, axiom, sorry.
-/
import Derived.Test.YtgfneeoponiibaaGreatChecked
import GoSem.Claim
import GoSem.ClaimJoined
import GoSem.ClaimMapViews
import Derived.JoinedTies
import Derived.KernelRfl
namespace Go.Proofs.YtgfneeoponiibaaGreat
/- THE CELL 'sum', in the pinned program and in every row, IS THE sha256 OF THE DUMP (.gsa) THAT YtgfneeoponiibaaGreatProg.lean LOADS. Nothing in Lean hashes anything: it is a label: what it is worth is what the hold of that sum in a sandbox is worth. -/
noncomputable def Tryz.pinned : Pinned := { name := "ytgfneeoponiibaagreat", sum := "1c2850a86d912eb5ab03cf9cfc84da26726c2939809d7c6bde329411ba8b919c", checked := Tryz.checked }
namespace Rows
def none {H : Type} : Left H := { results := [], args := [] }

/-- 'jetwaylaw07.KeepCodes': WHATEVER THE INPUT: true; the input reads as it did. -/
def keepCodesSpec : ChangeSpec := { name := "keepCodes", fn := fun _ => fun
  | [d1, d2] => { results := [.lit (.bool true)], args := [d1, d2] }
  | _ => none }
def keepCodesRow : OpenClaim := { program := "ytgfneeoponiibaagreat", sum := "1c2850a86d912eb5ab03cf9cfc84da26726c2939809d7c6bde329411ba8b919c", func := "jetway/jetwaylaw07.KeepCodes", spec := "keepCodes", unfollowed := true, recurses := true, apart := false }
def KeepCodesSaid : Prop := keepCodesRow.holds Tryz.pinned (OpenSpec.ofChange keepCodesSpec)

/-- ITS FALSE NEIGHBOUR: 'it returns false'. Refute it at one input. -/
def keepCodesWrong : ChangeSpec := { name := "keepCodes", fn := fun _ => fun
  | [d1, d2] => { results := [.lit (.bool false)], args := [d1, d2] }
  | _ => none }
def KeepCodesWrongFalsely : Prop := keepCodesRow.holds Tryz.pinned (OpenSpec.ofChange keepCodesWrong)

/-- 'jetwaylaw07.KeepApart': WHATEVER THE INPUT: true; the input reads as it did. -/
def keepApartSpec : ChangeSpec := { name := "keepApart", fn := fun _ => fun
  | [d1, d2, d3] => { results := [.lit (.bool true)], args := [d1, d2, d3] }
  | _ => none }
def keepApartRow : OpenClaim := { program := "ytgfneeoponiibaagreat", sum := "1c2850a86d912eb5ab03cf9cfc84da26726c2939809d7c6bde329411ba8b919c", func := "jetway/jetwaylaw07.KeepApart", spec := "keepApart", unfollowed := true, recurses := true, apart := false }
def KeepApartSaid : Prop := keepApartRow.holds Tryz.pinned (OpenSpec.ofChange keepApartSpec)

/-- ITS FALSE NEIGHBOUR: 'it returns false'. Refute it at one input. -/
def keepApartWrong : ChangeSpec := { name := "keepApart", fn := fun _ => fun
  | [d1, d2, d3] => { results := [.lit (.bool false)], args := [d1, d2, d3] }
  | _ => none }
def KeepApartWrongFalsely : Prop := keepApartRow.holds Tryz.pinned (OpenSpec.ofChange keepApartWrong)

/-- 'jetwaylaw07.KeepSnaps': WHATEVER THE INPUT: true; the input reads as it did. -/
def keepSnapsSpec : ChangeSpec := { name := "keepSnaps", fn := fun _ => fun
  | [d1, d2] => { results := [.lit (.bool true)], args := [d1, d2] }
  | _ => none }
def keepSnapsRow : OpenClaim := { program := "ytgfneeoponiibaagreat", sum := "1c2850a86d912eb5ab03cf9cfc84da26726c2939809d7c6bde329411ba8b919c", func := "jetway/jetwaylaw07.KeepSnaps", spec := "keepSnaps", unfollowed := true, recurses := true, apart := false }
def KeepSnapsSaid : Prop := keepSnapsRow.holds Tryz.pinned (OpenSpec.ofChange keepSnapsSpec)

/-- ITS FALSE NEIGHBOUR: 'it returns false'. Refute it at one input. -/
def keepSnapsWrong : ChangeSpec := { name := "keepSnaps", fn := fun _ => fun
  | [d1, d2] => { results := [.lit (.bool false)], args := [d1, d2] }
  | _ => none }
def KeepSnapsWrongFalsely : Prop := keepSnapsRow.holds Tryz.pinned (OpenSpec.ofChange keepSnapsWrong)

/-- 'jetwaylaw07.KeepAtomic': WHATEVER THE INPUT: true; the input reads as it did. -/
def keepAtomicSpec : ChangeSpec := { name := "keepAtomic", fn := fun _ => fun
  | [d1, d2, d3] => { results := [.lit (.bool true)], args := [d1, d2, d3] }
  | _ => none }
def keepAtomicRow : OpenClaim := { program := "ytgfneeoponiibaagreat", sum := "1c2850a86d912eb5ab03cf9cfc84da26726c2939809d7c6bde329411ba8b919c", func := "jetway/jetwaylaw07.KeepAtomic", spec := "keepAtomic", unfollowed := true, recurses := true, apart := false }
def KeepAtomicSaid : Prop := keepAtomicRow.holds Tryz.pinned (OpenSpec.ofChange keepAtomicSpec)

/-- ITS FALSE NEIGHBOUR: 'it returns false'. Refute it at one input. -/
def keepAtomicWrong : ChangeSpec := { name := "keepAtomic", fn := fun _ => fun
  | [d1, d2, d3] => { results := [.lit (.bool false)], args := [d1, d2, d3] }
  | _ => none }
def KeepAtomicWrongFalsely : Prop := keepAtomicRow.holds Tryz.pinned (OpenSpec.ofChange keepAtomicWrong)

/-- 'jetwaylaw07.KeepScripts': WHATEVER THE INPUT: true; the input reads as it did. -/
def keepScriptsSpec : ChangeSpec := { name := "keepScripts", fn := fun _ => fun
  | [d1, d2] => { results := [.lit (.bool true)], args := [d1, d2] }
  | _ => none }
def keepScriptsRow : OpenClaim := { program := "ytgfneeoponiibaagreat", sum := "1c2850a86d912eb5ab03cf9cfc84da26726c2939809d7c6bde329411ba8b919c", func := "jetway/jetwaylaw07.KeepScripts", spec := "keepScripts", unfollowed := true, recurses := true, apart := false }
def KeepScriptsSaid : Prop := keepScriptsRow.holds Tryz.pinned (OpenSpec.ofChange keepScriptsSpec)

/-- ITS FALSE NEIGHBOUR: 'it returns false'. Refute it at one input. -/
def keepScriptsWrong : ChangeSpec := { name := "keepScripts", fn := fun _ => fun
  | [d1, d2] => { results := [.lit (.bool false)], args := [d1, d2] }
  | _ => none }
def KeepScriptsWrongFalsely : Prop := keepScriptsRow.holds Tryz.pinned (OpenSpec.ofChange keepScriptsWrong)

/- THE SECOND FORM. 'bulk': how many values and letters a reading holds, each counted each time it is reached (what is shared counts as often as it is met; a slice's spare places count too). A statement '..UptoSaid' is the law's where the arguments, and the package variables that the reading takes, are together of bulk at most 1048576: NARROWER than '..Said'. Prove '..Said' where nothing that the law and all that it calls make is longer than what came in: it says more and counts as full. Else prove '..UptoSaid'. A law counts once. -/
mutual
def uptoBulk {H : Type} : DataW H → Nat
  | .lit (.string bytes) => bytes.length + 1
  | .lit _ => 1
  | .nil => 1
  | .ptr d => uptoBulk d + 1
  | .slice elems spare => uptoBulkAll elems + uptoBulkAll spare + 1
  | .agg parts => uptoBulkAll parts + 1
  | .iface _ d => uptoBulk d + 1
  | .map entries => uptoBulkEntries entries + 1
  | .held _ => 1
def uptoBulkAll {H : Type} : List (DataW H) → Nat
  | [] => 0
  | d :: r => uptoBulk d + uptoBulkAll r
def uptoBulkEntries {H : Type} : List (Lit × DataW H) → Nat
  | [] => 0
  | x :: r => uptoBulkEntry x + uptoBulkEntries r
def uptoBulkEntry {H : Type} : Lit × DataW H → Nat
  | (.string bytes, d) => bytes.length + uptoBulk d + 1
  | (_, d) => uptoBulk d + 1
 end
def uptoSmall : (H : Type) → List (DataW H) → Bool := fun _ ds => decide (uptoBulkAll ds ≤ 1048576)
def OpenSpec.upto (s : _root_.Go.ChangeSpec) : _root_.Go.OpenSpec := { _root_.Go.OpenSpec.ofChange s with cond := some uptoSmall }

/-- 'jetwaylaw07.KeepCodes', WHERE WHAT IT READS IS OF BULK AT MOST 1048576: true; the input reads as it did. -/
def keepCodesUptoRow : OpenClaim := { program := "ytgfneeoponiibaagreat", sum := "1c2850a86d912eb5ab03cf9cfc84da26726c2939809d7c6bde329411ba8b919c", func := "jetway/jetwaylaw07.KeepCodes", spec := "keepCodes", unfollowed := true, recurses := true, apart := false, narrowed := true }
def KeepCodesUptoSaid : Prop := keepCodesUptoRow.holds Tryz.pinned (OpenSpec.upto keepCodesSpec)

/-- 'jetwaylaw07.KeepApart', WHERE WHAT IT READS IS OF BULK AT MOST 1048576: true; the input reads as it did. -/
def keepApartUptoRow : OpenClaim := { program := "ytgfneeoponiibaagreat", sum := "1c2850a86d912eb5ab03cf9cfc84da26726c2939809d7c6bde329411ba8b919c", func := "jetway/jetwaylaw07.KeepApart", spec := "keepApart", unfollowed := true, recurses := true, apart := false, narrowed := true }
def KeepApartUptoSaid : Prop := keepApartUptoRow.holds Tryz.pinned (OpenSpec.upto keepApartSpec)

/-- 'jetwaylaw07.KeepSnaps', WHERE WHAT IT READS IS OF BULK AT MOST 1048576: true; the input reads as it did. -/
def keepSnapsUptoRow : OpenClaim := { program := "ytgfneeoponiibaagreat", sum := "1c2850a86d912eb5ab03cf9cfc84da26726c2939809d7c6bde329411ba8b919c", func := "jetway/jetwaylaw07.KeepSnaps", spec := "keepSnaps", unfollowed := true, recurses := true, apart := false, narrowed := true }
def KeepSnapsUptoSaid : Prop := keepSnapsUptoRow.holds Tryz.pinned (OpenSpec.upto keepSnapsSpec)

/-- 'jetwaylaw07.KeepAtomic', WHERE WHAT IT READS IS OF BULK AT MOST 1048576: true; the input reads as it did. -/
def keepAtomicUptoRow : OpenClaim := { program := "ytgfneeoponiibaagreat", sum := "1c2850a86d912eb5ab03cf9cfc84da26726c2939809d7c6bde329411ba8b919c", func := "jetway/jetwaylaw07.KeepAtomic", spec := "keepAtomic", unfollowed := true, recurses := true, apart := false, narrowed := true }
def KeepAtomicUptoSaid : Prop := keepAtomicUptoRow.holds Tryz.pinned (OpenSpec.upto keepAtomicSpec)

/-- 'jetwaylaw07.KeepScripts', WHERE WHAT IT READS IS OF BULK AT MOST 1048576: true; the input reads as it did. -/
def keepScriptsUptoRow : OpenClaim := { program := "ytgfneeoponiibaagreat", sum := "1c2850a86d912eb5ab03cf9cfc84da26726c2939809d7c6bde329411ba8b919c", func := "jetway/jetwaylaw07.KeepScripts", spec := "keepScripts", unfollowed := true, recurses := true, apart := false, narrowed := true }
def KeepScriptsUptoSaid : Prop := keepScriptsUptoRow.holds Tryz.pinned (OpenSpec.upto keepScriptsSpec)

end Rows
end Go.Proofs.YtgfneeoponiibaaGreat
