/-
  DERIVED. GIVEN WITH THE SEED: THE CARDS: each row of YtaacfjdknlglhaaGreatDoorRows.lean that lists a variable, with what it lists TIED to the program's text (the seventh form; the later family's looks); each row that meets fmt, with fmt's text TOLD by the authors' own Lean function (tested against real Go, not proved from fmt's source: count such statements apart). THE CARD IS WHAT COUNTS. Prove the row's statement (the work); the ties are given (YtaacfjdknlglhaaGreatDoorTie.lean); close each card by the builder's one call (the guide's Derived/Test/ToyasCard.lean, 'card_holds'). Laid BY PROGRAM, IN A SANDBOX (cutbox-door.mjs). By AI agents, Wed Nov 11 2026. No macro, syntax, notation, axiom, sorry.
-/
import Derived.Test.YtaacfjdknlglhaaGreatDoorRows
import GoSem.ClaimSeven
namespace Go.Proofs.YtaacfjdknlglhaaGreatDoor
namespace Rows

/-- THE TIED CARD OF 'jetwaylaw15.FlightDecodes'. -/
def flightDecodesCard : Claim7 := { stood := { row := flightDecodesRow, standIns := [], harness := (true, "4a875d5db1dc1dcb863e2a6a7bd0aa61027c3506f5bf6827da142d43f986275e"), looks := false }, kinds := [], alts := [], laidByText := true, laidKinds := [.data, .data, .data], laidTests := true, laidLooks := .later }
def FlightDecodesCardSaid : Prop := Claim7.holds Tryz.pinned (.plain (OpenSpec.ofChange flightDecodesSpec)) flightDecodesCard

/-- THE TIED CARD OF 'jetwaylaw15.FlightHolds'. -/
def flightHoldsCard : Claim7 := { stood := { row := flightHoldsRow, standIns := [], harness := (true, "4a875d5db1dc1dcb863e2a6a7bd0aa61027c3506f5bf6827da142d43f986275e"), looks := false }, kinds := [], alts := [], laidByText := true, laidKinds := [.data, .data, .data], laidTests := true, laidLooks := .later }
def FlightHoldsCardSaid : Prop := Claim7.holds Tryz.pinned (.plain (OpenSpec.ofChange flightHoldsSpec)) flightHoldsCard

/-- THE TIED CARD OF 'jetwaylaw15.FlightAuto'. -/
def flightAutoCard : Claim7 := { stood := { row := flightAutoRow, standIns := [], harness := (true, "4a875d5db1dc1dcb863e2a6a7bd0aa61027c3506f5bf6827da142d43f986275e"), looks := false }, kinds := [], alts := [], laidByText := true, laidKinds := [.data, .data, .data], laidTests := true, laidLooks := .later }
def FlightAutoCardSaid : Prop := Claim7.holds Tryz.pinned (.plain (OpenSpec.ofChange flightAutoSpec)) flightAutoCard

/-- THE TIED CARD OF 'jetwaylaw15.FlightUnseats'. -/
def flightUnseatsCard : Claim7 := { stood := { row := flightUnseatsRow, standIns := [], harness := (true, "4a875d5db1dc1dcb863e2a6a7bd0aa61027c3506f5bf6827da142d43f986275e"), looks := false }, kinds := [], alts := [], laidByText := true, laidKinds := [.data, .data, .data], laidTests := true, laidLooks := .later }
def FlightUnseatsCardSaid : Prop := Claim7.holds Tryz.pinned (.plain (OpenSpec.ofChange flightUnseatsSpec)) flightUnseatsCard

/-- THE TIED CARD OF 'jetwaylaw15.FlightScripts'. -/
def flightScriptsCard : Claim7 := { stood := { row := flightScriptsRow, standIns := [], harness := (true, "4a875d5db1dc1dcb863e2a6a7bd0aa61027c3506f5bf6827da142d43f986275e"), looks := false }, kinds := [], alts := [], laidByText := true, laidKinds := [.data, .data, .data], laidTests := true, laidLooks := .later }
def FlightScriptsCardSaid : Prop := Claim7.holds Tryz.pinned (.plain (OpenSpec.ofChange flightScriptsSpec)) flightScriptsCard

/-- THE TIED CARD OF 'jetwaylaw15.FlightBack'. -/
def flightBackCard : Claim7 := { stood := { row := flightBackRow, standIns := [], harness := (true, "4a875d5db1dc1dcb863e2a6a7bd0aa61027c3506f5bf6827da142d43f986275e"), looks := false }, kinds := [], alts := [], laidByText := true, laidKinds := [.data, .data, .data], laidTests := true, laidLooks := .later }
def FlightBackCardSaid : Prop := Claim7.holds Tryz.pinned (.plain (OpenSpec.ofChange flightBackSpec)) flightBackCard

/-- THE SECOND FORM's CARD OF 'jetwaylaw15.FlightDecodes'. -/
def flightDecodesUptoCard : Claim7 := { stood := { row := flightDecodesUptoRow, standIns := [], harness := (true, "4a875d5db1dc1dcb863e2a6a7bd0aa61027c3506f5bf6827da142d43f986275e"), looks := false }, kinds := [], alts := [], laidByText := true, laidKinds := [.data, .data, .data], laidTests := true, laidLooks := .later }
def FlightDecodesUptoCardSaid : Prop := Claim7.holds Tryz.pinned (.plain (OpenSpec.upto flightDecodesSpec)) flightDecodesUptoCard

/-- THE SECOND FORM's CARD OF 'jetwaylaw15.FlightHolds'. -/
def flightHoldsUptoCard : Claim7 := { stood := { row := flightHoldsUptoRow, standIns := [], harness := (true, "4a875d5db1dc1dcb863e2a6a7bd0aa61027c3506f5bf6827da142d43f986275e"), looks := false }, kinds := [], alts := [], laidByText := true, laidKinds := [.data, .data, .data], laidTests := true, laidLooks := .later }
def FlightHoldsUptoCardSaid : Prop := Claim7.holds Tryz.pinned (.plain (OpenSpec.upto flightHoldsSpec)) flightHoldsUptoCard

/-- THE SECOND FORM's CARD OF 'jetwaylaw15.FlightAuto'. -/
def flightAutoUptoCard : Claim7 := { stood := { row := flightAutoUptoRow, standIns := [], harness := (true, "4a875d5db1dc1dcb863e2a6a7bd0aa61027c3506f5bf6827da142d43f986275e"), looks := false }, kinds := [], alts := [], laidByText := true, laidKinds := [.data, .data, .data], laidTests := true, laidLooks := .later }
def FlightAutoUptoCardSaid : Prop := Claim7.holds Tryz.pinned (.plain (OpenSpec.upto flightAutoSpec)) flightAutoUptoCard

/-- THE SECOND FORM's CARD OF 'jetwaylaw15.FlightUnseats'. -/
def flightUnseatsUptoCard : Claim7 := { stood := { row := flightUnseatsUptoRow, standIns := [], harness := (true, "4a875d5db1dc1dcb863e2a6a7bd0aa61027c3506f5bf6827da142d43f986275e"), looks := false }, kinds := [], alts := [], laidByText := true, laidKinds := [.data, .data, .data], laidTests := true, laidLooks := .later }
def FlightUnseatsUptoCardSaid : Prop := Claim7.holds Tryz.pinned (.plain (OpenSpec.upto flightUnseatsSpec)) flightUnseatsUptoCard

/-- THE SECOND FORM's CARD OF 'jetwaylaw15.FlightScripts'. -/
def flightScriptsUptoCard : Claim7 := { stood := { row := flightScriptsUptoRow, standIns := [], harness := (true, "4a875d5db1dc1dcb863e2a6a7bd0aa61027c3506f5bf6827da142d43f986275e"), looks := false }, kinds := [], alts := [], laidByText := true, laidKinds := [.data, .data, .data], laidTests := true, laidLooks := .later }
def FlightScriptsUptoCardSaid : Prop := Claim7.holds Tryz.pinned (.plain (OpenSpec.upto flightScriptsSpec)) flightScriptsUptoCard

/-- THE SECOND FORM's CARD OF 'jetwaylaw15.FlightBack'. -/
def flightBackUptoCard : Claim7 := { stood := { row := flightBackUptoRow, standIns := [], harness := (true, "4a875d5db1dc1dcb863e2a6a7bd0aa61027c3506f5bf6827da142d43f986275e"), looks := false }, kinds := [], alts := [], laidByText := true, laidKinds := [.data, .data, .data], laidTests := true, laidLooks := .later }
def FlightBackUptoCardSaid : Prop := Claim7.holds Tryz.pinned (.plain (OpenSpec.upto flightBackSpec)) flightBackUptoCard
end Rows
end Go.Proofs.YtaacfjdknlglhaaGreatDoor
