/-
  DERIVED. GIVEN WITH THE SEED: THE CARDS: each row of YtflgboncpbmikaaGreatDoorRows.lean that lists a variable, with what it lists TIED to the program's text (the seventh form; the later family's looks); each row that meets fmt, with fmt's text TOLD by the authors' own Lean function (tested against real Go, not proved from fmt's source: count such statements apart). THE CARD IS WHAT COUNTS. Prove the row's statement (the work); the ties are given (YtflgboncpbmikaaGreatDoorTie.lean); close each card by the builder's one call (the guide's Derived/Test/ToyasCard.lean, 'card_holds'). Laid BY PROGRAM, IN A SANDBOX (cutbox-door.mjs). By AI agents, Wed Nov 11 2026. No macro, syntax, notation, axiom, sorry.
-/
import Derived.Test.YtflgboncpbmikaaGreatDoorRows
import GoSem.ClaimSeven
namespace Go.Proofs.YtflgboncpbmikaaGreatDoor
namespace Rows

/-- THE TIED CARD OF 'jetwaylaw19.SessionBack'. -/
def sessionBackCard : Claim7 := { stood := { row := sessionBackRow, standIns := [], harness := (true, "2253925df9493dfb42ae53670cfb25c5fc7dc1794886ec97a0d86d251f98d5f1"), looks := true }, kinds := [], alts := [], laidByText := true, laidKinds := [.data, .data, .data], laidTests := true, laidLooks := .later }
def SessionBackCardSaid : Prop := Claim7.holds Tryz.pinned (.plain (OpenSpec.ofChange sessionBackSpec)) sessionBackCard

/-- THE TIED CARD OF 'jetwaylaw19.SessionGone'. -/
def sessionGoneCard : Claim7 := { stood := { row := sessionGoneRow, standIns := [], harness := (true, "2253925df9493dfb42ae53670cfb25c5fc7dc1794886ec97a0d86d251f98d5f1"), looks := true }, kinds := [], alts := [], laidByText := true, laidKinds := [.data, .data, .data], laidTests := true, laidLooks := .later }
def SessionGoneCardSaid : Prop := Claim7.holds Tryz.pinned (.plain (OpenSpec.ofChange sessionGoneSpec)) sessionGoneCard

/-- THE SECOND FORM's CARD OF 'jetwaylaw19.SessionBack'. -/
def sessionBackUptoCard : Claim7 := { stood := { row := sessionBackUptoRow, standIns := [], harness := (true, "2253925df9493dfb42ae53670cfb25c5fc7dc1794886ec97a0d86d251f98d5f1"), looks := true }, kinds := [], alts := [], laidByText := true, laidKinds := [.data, .data, .data], laidTests := true, laidLooks := .later }
def SessionBackUptoCardSaid : Prop := Claim7.holds Tryz.pinned (.plain (OpenSpec.upto sessionBackSpec)) sessionBackUptoCard

/-- THE SECOND FORM's CARD OF 'jetwaylaw19.SessionGone'. -/
def sessionGoneUptoCard : Claim7 := { stood := { row := sessionGoneUptoRow, standIns := [], harness := (true, "2253925df9493dfb42ae53670cfb25c5fc7dc1794886ec97a0d86d251f98d5f1"), looks := true }, kinds := [], alts := [], laidByText := true, laidKinds := [.data, .data, .data], laidTests := true, laidLooks := .later }
def SessionGoneUptoCardSaid : Prop := Claim7.holds Tryz.pinned (.plain (OpenSpec.upto sessionGoneSpec)) sessionGoneUptoCard
end Rows
end Go.Proofs.YtflgboncpbmikaaGreatDoor
