/-
  No cell of these rows narrows 'for every input' (looked for: loops, veiled, ifaces, maps, wideKeys, modest, calm, conditions, laid).
  DERIVED. THE GIVEN ROWS OF THIS SEAT. 5 by the template 'for every input the law returns true; each argument reads behind the call as it read before'; 0 by the template 'total and deterministic' (their statements: YthpmfnffkjjlnaaGreatTotals.lean).
  GIVEN WITH THE SEED: the statements are not yours to turn. If you find one false, say at which input.
  Laid BY PROGRAM, IN A SANDBOX (cutbox-rows.mjs): the forced cells as the released guide's own fill.sh prints them over the translation e93e86bfab477c1c… (all of the seat's roots in one cut). By AI agents, Wed Nov 11 2026. No macro, syntax, notation, axiom, sorry.
-/
import Derived.Test.YthpmfnffkjjlnaaGreatChecked
import GoSem.Claim
import GoSem.ClaimJoined
import GoSem.ClaimMapViews
import Derived.JoinedTies
import Derived.KernelRfl
namespace Go.Proofs.YthpmfnffkjjlnaaGreat
/- THE CELL 'sum', in the pinned program and in every row, IS THE sha256 OF THE DUMP (.gsa) THAT YthpmfnffkjjlnaaGreatProg.lean LOADS. Nothing in Lean hashes anything: it is a label: what it is worth is what the hold of that sum in a sandbox is worth. -/
noncomputable def Tryz.pinned : Pinned := { name := "ythpmfnffkjjlnaagreat", sum := "e93e86bfab477c1ccee74c647c74a4f32264616492b893dab7e33f57f6875082", checked := Tryz.checked }
namespace Rows
def none {H : Type} : Left H := { results := [], args := [] }

/-- 'jetwaylaw12.RaftAlone': WHATEVER THE INPUT: true; the input reads as it did. -/
def raftAloneSpec : ChangeSpec := { name := "raftAlone", fn := fun _ => fun
  | [d1, d2] => { results := [.lit (.bool true)], args := [d1, d2] }
  | _ => none }
def raftAloneRow : OpenClaim := { program := "ythpmfnffkjjlnaagreat", sum := "e93e86bfab477c1ccee74c647c74a4f32264616492b893dab7e33f57f6875082", func := "jetway/jetwaylaw12.RaftAlone", spec := "raftAlone", unfollowed := true, recurses := true, apart := false }
def RaftAloneSaid : Prop := raftAloneRow.holds Tryz.pinned (OpenSpec.ofChange raftAloneSpec)

/-- ITS FALSE NEIGHBOUR: 'it returns false'. Refute it at one input. -/
def raftAloneWrong : ChangeSpec := { name := "raftAlone", fn := fun _ => fun
  | [d1, d2] => { results := [.lit (.bool false)], args := [d1, d2] }
  | _ => none }
def RaftAloneWrongFalsely : Prop := raftAloneRow.holds Tryz.pinned (OpenSpec.ofChange raftAloneWrong)

/-- 'jetwaylaw12.RaftFollows': WHATEVER THE INPUT: true; the input reads as it did. -/
def raftFollowsSpec : ChangeSpec := { name := "raftFollows", fn := fun _ => fun
  | [d1, d2, d3] => { results := [.lit (.bool true)], args := [d1, d2, d3] }
  | _ => none }
def raftFollowsRow : OpenClaim := { program := "ythpmfnffkjjlnaagreat", sum := "e93e86bfab477c1ccee74c647c74a4f32264616492b893dab7e33f57f6875082", func := "jetway/jetwaylaw12.RaftFollows", spec := "raftFollows", unfollowed := true, recurses := true, apart := false }
def RaftFollowsSaid : Prop := raftFollowsRow.holds Tryz.pinned (OpenSpec.ofChange raftFollowsSpec)

/-- ITS FALSE NEIGHBOUR: 'it returns false'. Refute it at one input. -/
def raftFollowsWrong : ChangeSpec := { name := "raftFollows", fn := fun _ => fun
  | [d1, d2, d3] => { results := [.lit (.bool false)], args := [d1, d2, d3] }
  | _ => none }
def RaftFollowsWrongFalsely : Prop := raftFollowsRow.holds Tryz.pinned (OpenSpec.ofChange raftFollowsWrong)

/-- 'jetwaylaw12.RaftAgain': WHATEVER THE INPUT: true; the input reads as it did. -/
def raftAgainSpec : ChangeSpec := { name := "raftAgain", fn := fun _ => fun
  | [d1, d2] => { results := [.lit (.bool true)], args := [d1, d2] }
  | _ => none }
def raftAgainRow : OpenClaim := { program := "ythpmfnffkjjlnaagreat", sum := "e93e86bfab477c1ccee74c647c74a4f32264616492b893dab7e33f57f6875082", func := "jetway/jetwaylaw12.RaftAgain", spec := "raftAgain", unfollowed := true, recurses := true, apart := false }
def RaftAgainSaid : Prop := raftAgainRow.holds Tryz.pinned (OpenSpec.ofChange raftAgainSpec)

/-- ITS FALSE NEIGHBOUR: 'it returns false'. Refute it at one input. -/
def raftAgainWrong : ChangeSpec := { name := "raftAgain", fn := fun _ => fun
  | [d1, d2] => { results := [.lit (.bool false)], args := [d1, d2] }
  | _ => none }
def RaftAgainWrongFalsely : Prop := raftAgainRow.holds Tryz.pinned (OpenSpec.ofChange raftAgainWrong)

/-- 'jetwaylaw12.RaftSafe': WHATEVER THE INPUT: true; the input reads as it did. -/
def raftSafeSpec : ChangeSpec := { name := "raftSafe", fn := fun _ => fun
  | [d1, d2, d3] => { results := [.lit (.bool true)], args := [d1, d2, d3] }
  | _ => none }
def raftSafeRow : OpenClaim := { program := "ythpmfnffkjjlnaagreat", sum := "e93e86bfab477c1ccee74c647c74a4f32264616492b893dab7e33f57f6875082", func := "jetway/jetwaylaw12.RaftSafe", spec := "raftSafe", unfollowed := true, recurses := true, apart := false }
def RaftSafeSaid : Prop := raftSafeRow.holds Tryz.pinned (OpenSpec.ofChange raftSafeSpec)

/-- ITS FALSE NEIGHBOUR: 'it returns false'. Refute it at one input. -/
def raftSafeWrong : ChangeSpec := { name := "raftSafe", fn := fun _ => fun
  | [d1, d2, d3] => { results := [.lit (.bool false)], args := [d1, d2, d3] }
  | _ => none }
def RaftSafeWrongFalsely : Prop := raftSafeRow.holds Tryz.pinned (OpenSpec.ofChange raftSafeWrong)

/-- 'jetwaylaw12.RaftLeads': WHATEVER THE INPUT: true; the input reads as it did. -/
def raftLeadsSpec : ChangeSpec := { name := "raftLeads", fn := fun _ => fun
  | [d1, d2, d3] => { results := [.lit (.bool true)], args := [d1, d2, d3] }
  | _ => none }
def raftLeadsRow : OpenClaim := { program := "ythpmfnffkjjlnaagreat", sum := "e93e86bfab477c1ccee74c647c74a4f32264616492b893dab7e33f57f6875082", func := "jetway/jetwaylaw12.RaftLeads", spec := "raftLeads", unfollowed := true, recurses := true, apart := false }
def RaftLeadsSaid : Prop := raftLeadsRow.holds Tryz.pinned (OpenSpec.ofChange raftLeadsSpec)

/-- ITS FALSE NEIGHBOUR: 'it returns false'. Refute it at one input. -/
def raftLeadsWrong : ChangeSpec := { name := "raftLeads", fn := fun _ => fun
  | [d1, d2, d3] => { results := [.lit (.bool false)], args := [d1, d2, d3] }
  | _ => none }
def RaftLeadsWrongFalsely : Prop := raftLeadsRow.holds Tryz.pinned (OpenSpec.ofChange raftLeadsWrong)

/- THE SECOND FORM. 'bulk': how many values and letters a reading holds, each counted each time it is reached (what is shared counts as often as it is met; a slice's spare places count too). A statement '..UptoSaid' is the law's where the arguments, and the package variables that the reading takes, are together of bulk at most 1048576: NARROWER than '..Said'. Prove '..Said' where nothing that the law and all that it calls make is longer than what came in: it says more and counts as full. Else prove '..UptoSaid'. A law counts once. -/
mutual
def uptoBulk {H : Type} : DataW H → Nat
  | .lit (.string bytes) => bytes.length + 1
  | .lit _ => 1
  | .nil => 1
  | .ptr d => uptoBulk d + 1
  | .slice elems spare => uptoBulkAll elems + uptoBulkAll spare + 1
  | .agg parts => uptoBulkAll parts + 1
  | .iface _ d => uptoBulk d + 1
  | .map entries => uptoBulkEntries entries + 1
  | .held _ => 1
def uptoBulkAll {H : Type} : List (DataW H) → Nat
  | [] => 0
  | d :: r => uptoBulk d + uptoBulkAll r
def uptoBulkEntries {H : Type} : List (Lit × DataW H) → Nat
  | [] => 0
  | x :: r => uptoBulkEntry x + uptoBulkEntries r
def uptoBulkEntry {H : Type} : Lit × DataW H → Nat
  | (.string bytes, d) => bytes.length + uptoBulk d + 1
  | (_, d) => uptoBulk d + 1
 end
def uptoSmall : (H : Type) → List (DataW H) → Bool := fun _ ds => decide (uptoBulkAll ds ≤ 1048576)
def OpenSpec.upto (s : _root_.Go.ChangeSpec) : _root_.Go.OpenSpec := { _root_.Go.OpenSpec.ofChange s with cond := some uptoSmall }

/-- 'jetwaylaw12.RaftAlone', WHERE WHAT IT READS IS OF BULK AT MOST 1048576: true; the input reads as it did. -/
def raftAloneUptoRow : OpenClaim := { program := "ythpmfnffkjjlnaagreat", sum := "e93e86bfab477c1ccee74c647c74a4f32264616492b893dab7e33f57f6875082", func := "jetway/jetwaylaw12.RaftAlone", spec := "raftAlone", unfollowed := true, recurses := true, apart := false, narrowed := true }
def RaftAloneUptoSaid : Prop := raftAloneUptoRow.holds Tryz.pinned (OpenSpec.upto raftAloneSpec)

/-- 'jetwaylaw12.RaftFollows', WHERE WHAT IT READS IS OF BULK AT MOST 1048576: true; the input reads as it did. -/
def raftFollowsUptoRow : OpenClaim := { program := "ythpmfnffkjjlnaagreat", sum := "e93e86bfab477c1ccee74c647c74a4f32264616492b893dab7e33f57f6875082", func := "jetway/jetwaylaw12.RaftFollows", spec := "raftFollows", unfollowed := true, recurses := true, apart := false, narrowed := true }
def RaftFollowsUptoSaid : Prop := raftFollowsUptoRow.holds Tryz.pinned (OpenSpec.upto raftFollowsSpec)

/-- 'jetwaylaw12.RaftAgain', WHERE WHAT IT READS IS OF BULK AT MOST 1048576: true; the input reads as it did. -/
def raftAgainUptoRow : OpenClaim := { program := "ythpmfnffkjjlnaagreat", sum := "e93e86bfab477c1ccee74c647c74a4f32264616492b893dab7e33f57f6875082", func := "jetway/jetwaylaw12.RaftAgain", spec := "raftAgain", unfollowed := true, recurses := true, apart := false, narrowed := true }
def RaftAgainUptoSaid : Prop := raftAgainUptoRow.holds Tryz.pinned (OpenSpec.upto raftAgainSpec)

/-- 'jetwaylaw12.RaftSafe', WHERE WHAT IT READS IS OF BULK AT MOST 1048576: true; the input reads as it did. -/
def raftSafeUptoRow : OpenClaim := { program := "ythpmfnffkjjlnaagreat", sum := "e93e86bfab477c1ccee74c647c74a4f32264616492b893dab7e33f57f6875082", func := "jetway/jetwaylaw12.RaftSafe", spec := "raftSafe", unfollowed := true, recurses := true, apart := false, narrowed := true }
def RaftSafeUptoSaid : Prop := raftSafeUptoRow.holds Tryz.pinned (OpenSpec.upto raftSafeSpec)

/-- 'jetwaylaw12.RaftLeads', WHERE WHAT IT READS IS OF BULK AT MOST 1048576: true; the input reads as it did. -/
def raftLeadsUptoRow : OpenClaim := { program := "ythpmfnffkjjlnaagreat", sum := "e93e86bfab477c1ccee74c647c74a4f32264616492b893dab7e33f57f6875082", func := "jetway/jetwaylaw12.RaftLeads", spec := "raftLeads", unfollowed := true, recurses := true, apart := false, narrowed := true }
def RaftLeadsUptoSaid : Prop := raftLeadsUptoRow.holds Tryz.pinned (OpenSpec.upto raftLeadsSpec)

end Rows
end Go.Proofs.YthpmfnffkjjlnaaGreat
