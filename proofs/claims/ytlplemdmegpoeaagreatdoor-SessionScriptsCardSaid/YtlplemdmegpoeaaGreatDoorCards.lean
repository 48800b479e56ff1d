/-
  DERIVED. GIVEN WITH THE SEED: THE CARDS: each row of YtlplemdmegpoeaaGreatDoorRows.lean that lists a variable, with what it lists TIED to the program's text (the seventh form; the later family's looks); each row that meets fmt, with fmt's text TOLD by the authors' own Lean function (tested against real Go, not proved from fmt's source: count such statements apart). THE CARD IS WHAT COUNTS. Prove the row's statement (the work); the ties are given (YtlplemdmegpoeaaGreatDoorTie.lean); close each card by the builder's one call (the guide's Derived/Test/ToyasCard.lean, 'card_holds'). Laid BY PROGRAM, IN A SANDBOX (cutbox-door.mjs). By AI agents, Wed Nov 11 2026. No macro, syntax, notation, axiom, sorry.
-/
import Derived.Test.YtlplemdmegpoeaaGreatDoorRows
import GoSem.ClaimSeven
namespace Go.Proofs.YtlplemdmegpoeaaGreatDoor
namespace Rows

/-- THE TIED CARD OF 'jetwaylaw18.BookingScripts'. -/
def bookingScriptsCard : Claim7 := { stood := { row := bookingScriptsRow, standIns := [], harness := (true, "3129ef0c656f331a12e0ae780c0341adaa096e6356435926d3bba9bcb766f7c2"), looks := true }, kinds := [], alts := [], laidByText := true, laidKinds := [.data, .data, .data], laidTests := true, laidLooks := .later }
def BookingScriptsCardSaid : Prop := Claim7.holds Tryz.pinned (.plain (OpenSpec.ofChange bookingScriptsSpec)) bookingScriptsCard

/-- THE TIED CARD OF 'jetwaylaw19.SessionOnce'. -/
def sessionOnceCard : Claim7 := { stood := { row := sessionOnceRow, standIns := [], harness := (true, "3129ef0c656f331a12e0ae780c0341adaa096e6356435926d3bba9bcb766f7c2"), looks := true }, kinds := [], alts := [], laidByText := true, laidKinds := [.data, .data, .data], laidTests := true, laidLooks := .later }
def SessionOnceCardSaid : Prop := Claim7.holds Tryz.pinned (.plain (OpenSpec.ofChange sessionOnceSpec)) sessionOnceCard

/-- THE TIED CARD OF 'jetwaylaw19.SessionScripts'. -/
def sessionScriptsCard : Claim7 := { stood := { row := sessionScriptsRow, standIns := [], harness := (true, "3129ef0c656f331a12e0ae780c0341adaa096e6356435926d3bba9bcb766f7c2"), looks := true }, kinds := [], alts := [], laidByText := true, laidKinds := [.data, .data, .data], laidTests := true, laidLooks := .later }
def SessionScriptsCardSaid : Prop := Claim7.holds Tryz.pinned (.plain (OpenSpec.ofChange sessionScriptsSpec)) sessionScriptsCard

/-- THE TIED CARD OF 'jetwaylaw19.SessionLoads'. -/
def sessionLoadsCard : Claim7 := { stood := { row := sessionLoadsRow, standIns := [], harness := (true, "3129ef0c656f331a12e0ae780c0341adaa096e6356435926d3bba9bcb766f7c2"), looks := true }, kinds := [], alts := [], laidByText := true, laidKinds := [.data, .data, .data], laidTests := true, laidLooks := .later }
def SessionLoadsCardSaid : Prop := Claim7.holds Tryz.pinned (.plain (OpenSpec.ofChange sessionLoadsSpec)) sessionLoadsCard

/-- THE TIED CARD OF 'jetwaylaw19.SessionLoaded'. -/
def sessionLoadedCard : Claim7 := { stood := { row := sessionLoadedRow, standIns := [], harness := (true, "3129ef0c656f331a12e0ae780c0341adaa096e6356435926d3bba9bcb766f7c2"), looks := true }, kinds := [], alts := [], laidByText := true, laidKinds := [.data, .data, .data], laidTests := true, laidLooks := .later }
def SessionLoadedCardSaid : Prop := Claim7.holds Tryz.pinned (.plain (OpenSpec.ofChange sessionLoadedSpec)) sessionLoadedCard

/-- THE SECOND FORM's CARD OF 'jetwaylaw18.BookingScripts'. -/
def bookingScriptsUptoCard : Claim7 := { stood := { row := bookingScriptsUptoRow, standIns := [], harness := (true, "3129ef0c656f331a12e0ae780c0341adaa096e6356435926d3bba9bcb766f7c2"), looks := true }, kinds := [], alts := [], laidByText := true, laidKinds := [.data, .data, .data], laidTests := true, laidLooks := .later }
def BookingScriptsUptoCardSaid : Prop := Claim7.holds Tryz.pinned (.plain (OpenSpec.upto bookingScriptsSpec)) bookingScriptsUptoCard

/-- THE SECOND FORM's CARD OF 'jetwaylaw19.SessionOnce'. -/
def sessionOnceUptoCard : Claim7 := { stood := { row := sessionOnceUptoRow, standIns := [], harness := (true, "3129ef0c656f331a12e0ae780c0341adaa096e6356435926d3bba9bcb766f7c2"), looks := true }, kinds := [], alts := [], laidByText := true, laidKinds := [.data, .data, .data], laidTests := true, laidLooks := .later }
def SessionOnceUptoCardSaid : Prop := Claim7.holds Tryz.pinned (.plain (OpenSpec.upto sessionOnceSpec)) sessionOnceUptoCard

/-- THE SECOND FORM's CARD OF 'jetwaylaw19.SessionScripts'. -/
def sessionScriptsUptoCard : Claim7 := { stood := { row := sessionScriptsUptoRow, standIns := [], harness := (true, "3129ef0c656f331a12e0ae780c0341adaa096e6356435926d3bba9bcb766f7c2"), looks := true }, kinds := [], alts := [], laidByText := true, laidKinds := [.data, .data, .data], laidTests := true, laidLooks := .later }
def SessionScriptsUptoCardSaid : Prop := Claim7.holds Tryz.pinned (.plain (OpenSpec.upto sessionScriptsSpec)) sessionScriptsUptoCard

/-- THE SECOND FORM's CARD OF 'jetwaylaw19.SessionLoads'. -/
def sessionLoadsUptoCard : Claim7 := { stood := { row := sessionLoadsUptoRow, standIns := [], harness := (true, "3129ef0c656f331a12e0ae780c0341adaa096e6356435926d3bba9bcb766f7c2"), looks := true }, kinds := [], alts := [], laidByText := true, laidKinds := [.data, .data, .data], laidTests := true, laidLooks := .later }
def SessionLoadsUptoCardSaid : Prop := Claim7.holds Tryz.pinned (.plain (OpenSpec.upto sessionLoadsSpec)) sessionLoadsUptoCard

/-- THE SECOND FORM's CARD OF 'jetwaylaw19.SessionLoaded'. -/
def sessionLoadedUptoCard : Claim7 := { stood := { row := sessionLoadedUptoRow, standIns := [], harness := (true, "3129ef0c656f331a12e0ae780c0341adaa096e6356435926d3bba9bcb766f7c2"), looks := true }, kinds := [], alts := [], laidByText := true, laidKinds := [.data, .data, .data], laidTests := true, laidLooks := .later }
def SessionLoadedUptoCardSaid : Prop := Claim7.holds Tryz.pinned (.plain (OpenSpec.upto sessionLoadedSpec)) sessionLoadedUptoCard
end Rows
end Go.Proofs.YtlplemdmegpoeaaGreatDoor
