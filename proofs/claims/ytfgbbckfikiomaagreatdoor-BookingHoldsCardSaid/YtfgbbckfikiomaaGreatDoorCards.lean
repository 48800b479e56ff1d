/-
  DERIVED. GIVEN WITH THE SEED: THE CARDS: each row of YtfgbbckfikiomaaGreatDoorRows.lean that lists a variable, with what it lists TIED to the program's text (the seventh form; the later family's looks); each row that meets fmt, with fmt's text TOLD by the authors' own Lean function (tested against real Go, not proved from fmt's source: count such statements apart). THE CARD IS WHAT COUNTS. Prove the row's statement (the work); the ties are given (YtfgbbckfikiomaaGreatDoorTie.lean); close each card by the builder's one call (the guide's Derived/Test/ToyasCard.lean, 'card_holds'). Laid BY PROGRAM, IN A SANDBOX (cutbox-door.mjs). By AI agents, Wed Nov 11 2026. No macro, syntax, notation, axiom, sorry.
-/
import Derived.Test.YtfgbbckfikiomaaGreatDoorRows
import GoSem.ClaimSeven
namespace Go.Proofs.YtfgbbckfikiomaaGreatDoor
namespace Rows

/-- THE TIED CARD OF 'jetwaylaw18.BookingNames'. -/
def bookingNamesCard : Claim7 := { stood := { row := bookingNamesRow, standIns := [], harness := (true, "cae91f812608bd1ccc85a6e8adf44878454e465912f49210b36da1cc4206cde3"), looks := true }, kinds := [], alts := [], laidByText := true, laidKinds := [.data, .data, .data], laidTests := true, laidLooks := .later }
def BookingNamesCardSaid : Prop := Claim7.holds Tryz.pinned (.plain (OpenSpec.ofChange bookingNamesSpec)) bookingNamesCard

/-- THE TIED CARD OF 'jetwaylaw18.BookingTime'. -/
def bookingTimeCard : Claim7 := { stood := { row := bookingTimeRow, standIns := [], harness := (true, "cae91f812608bd1ccc85a6e8adf44878454e465912f49210b36da1cc4206cde3"), looks := true }, kinds := [], alts := [], laidByText := true, laidKinds := [.data, .data, .data], laidTests := true, laidLooks := .later }
def BookingTimeCardSaid : Prop := Claim7.holds Tryz.pinned (.plain (OpenSpec.ofChange bookingTimeSpec)) bookingTimeCard

/-- THE TIED CARD OF 'jetwaylaw18.BookingRefused'. -/
def bookingRefusedCard : Claim7 := { stood := { row := bookingRefusedRow, standIns := [], harness := (true, "cae91f812608bd1ccc85a6e8adf44878454e465912f49210b36da1cc4206cde3"), looks := true }, kinds := [], alts := [], laidByText := true, laidKinds := [.data, .data, .data], laidTests := true, laidLooks := .later }
def BookingRefusedCardSaid : Prop := Claim7.holds Tryz.pinned (.plain (OpenSpec.ofChange bookingRefusedSpec)) bookingRefusedCard

/-- THE TIED CARD OF 'jetwaylaw18.BookingScripts'. -/
def bookingScriptsCard : Claim7 := { stood := { row := bookingScriptsRow, standIns := [], harness := (true, "cae91f812608bd1ccc85a6e8adf44878454e465912f49210b36da1cc4206cde3"), looks := true }, kinds := [], alts := [], laidByText := true, laidKinds := [.data, .data, .data], laidTests := true, laidLooks := .later }
def BookingScriptsCardSaid : Prop := Claim7.holds Tryz.pinned (.plain (OpenSpec.ofChange bookingScriptsSpec)) bookingScriptsCard

/-- THE TIED CARD OF 'jetwaylaw18.BookingReplies'. -/
def bookingRepliesCard : Claim7 := { stood := { row := bookingRepliesRow, standIns := [], harness := (true, "cae91f812608bd1ccc85a6e8adf44878454e465912f49210b36da1cc4206cde3"), looks := true }, kinds := [], alts := [], laidByText := true, laidKinds := [.data, .data, .data], laidTests := true, laidLooks := .later }
def BookingRepliesCardSaid : Prop := Claim7.holds Tryz.pinned (.plain (OpenSpec.ofChange bookingRepliesSpec)) bookingRepliesCard

/-- THE TIED CARD OF 'jetwaylaw18.BookingCodes'. -/
def bookingCodesCard : Claim7 := { stood := { row := bookingCodesRow, standIns := [], harness := (true, "cae91f812608bd1ccc85a6e8adf44878454e465912f49210b36da1cc4206cde3"), looks := true }, kinds := [], alts := [], laidByText := true, laidKinds := [.data, .data, .data], laidTests := true, laidLooks := .later }
def BookingCodesCardSaid : Prop := Claim7.holds Tryz.pinned (.plain (OpenSpec.ofChange bookingCodesSpec)) bookingCodesCard

/-- THE TIED CARD OF 'jetwaylaw18.BookingBack'. -/
def bookingBackCard : Claim7 := { stood := { row := bookingBackRow, standIns := [], harness := (true, "cae91f812608bd1ccc85a6e8adf44878454e465912f49210b36da1cc4206cde3"), looks := true }, kinds := [], alts := [], laidByText := true, laidKinds := [.data, .data, .data], laidTests := true, laidLooks := .later }
def BookingBackCardSaid : Prop := Claim7.holds Tryz.pinned (.plain (OpenSpec.ofChange bookingBackSpec)) bookingBackCard

/-- THE TIED CARD OF 'jetwaylaw18.BookingHolds'. -/
def bookingHoldsCard : Claim7 := { stood := { row := bookingHoldsRow, standIns := [], harness := (true, "cae91f812608bd1ccc85a6e8adf44878454e465912f49210b36da1cc4206cde3"), looks := true }, kinds := [], alts := [], laidByText := true, laidKinds := [.data, .data, .data], laidTests := true, laidLooks := .later }
def BookingHoldsCardSaid : Prop := Claim7.holds Tryz.pinned (.plain (OpenSpec.ofChange bookingHoldsSpec)) bookingHoldsCard

/-- THE TIED CARD OF 'jetwaylaw18.BookingLoaded'. -/
def bookingLoadedCard : Claim7 := { stood := { row := bookingLoadedRow, standIns := [], harness := (true, "cae91f812608bd1ccc85a6e8adf44878454e465912f49210b36da1cc4206cde3"), looks := true }, kinds := [], alts := [], laidByText := true, laidKinds := [.data, .data, .data], laidTests := true, laidLooks := .later }
def BookingLoadedCardSaid : Prop := Claim7.holds Tryz.pinned (.plain (OpenSpec.ofChange bookingLoadedSpec)) bookingLoadedCard

/-- THE SECOND FORM's CARD OF 'jetwaylaw18.BookingNames'. -/
def bookingNamesUptoCard : Claim7 := { stood := { row := bookingNamesUptoRow, standIns := [], harness := (true, "cae91f812608bd1ccc85a6e8adf44878454e465912f49210b36da1cc4206cde3"), looks := true }, kinds := [], alts := [], laidByText := true, laidKinds := [.data, .data, .data], laidTests := true, laidLooks := .later }
def BookingNamesUptoCardSaid : Prop := Claim7.holds Tryz.pinned (.plain (OpenSpec.upto bookingNamesSpec)) bookingNamesUptoCard

/-- THE SECOND FORM's CARD OF 'jetwaylaw18.BookingTime'. -/
def bookingTimeUptoCard : Claim7 := { stood := { row := bookingTimeUptoRow, standIns := [], harness := (true, "cae91f812608bd1ccc85a6e8adf44878454e465912f49210b36da1cc4206cde3"), looks := true }, kinds := [], alts := [], laidByText := true, laidKinds := [.data, .data, .data], laidTests := true, laidLooks := .later }
def BookingTimeUptoCardSaid : Prop := Claim7.holds Tryz.pinned (.plain (OpenSpec.upto bookingTimeSpec)) bookingTimeUptoCard

/-- THE SECOND FORM's CARD OF 'jetwaylaw18.BookingRefused'. -/
def bookingRefusedUptoCard : Claim7 := { stood := { row := bookingRefusedUptoRow, standIns := [], harness := (true, "cae91f812608bd1ccc85a6e8adf44878454e465912f49210b36da1cc4206cde3"), looks := true }, kinds := [], alts := [], laidByText := true, laidKinds := [.data, .data, .data], laidTests := true, laidLooks := .later }
def BookingRefusedUptoCardSaid : Prop := Claim7.holds Tryz.pinned (.plain (OpenSpec.upto bookingRefusedSpec)) bookingRefusedUptoCard

/-- THE SECOND FORM's CARD OF 'jetwaylaw18.BookingScripts'. -/
def bookingScriptsUptoCard : Claim7 := { stood := { row := bookingScriptsUptoRow, standIns := [], harness := (true, "cae91f812608bd1ccc85a6e8adf44878454e465912f49210b36da1cc4206cde3"), looks := true }, kinds := [], alts := [], laidByText := true, laidKinds := [.data, .data, .data], laidTests := true, laidLooks := .later }
def BookingScriptsUptoCardSaid : Prop := Claim7.holds Tryz.pinned (.plain (OpenSpec.upto bookingScriptsSpec)) bookingScriptsUptoCard

/-- THE SECOND FORM's CARD OF 'jetwaylaw18.BookingReplies'. -/
def bookingRepliesUptoCard : Claim7 := { stood := { row := bookingRepliesUptoRow, standIns := [], harness := (true, "cae91f812608bd1ccc85a6e8adf44878454e465912f49210b36da1cc4206cde3"), looks := true }, kinds := [], alts := [], laidByText := true, laidKinds := [.data, .data, .data], laidTests := true, laidLooks := .later }
def BookingRepliesUptoCardSaid : Prop := Claim7.holds Tryz.pinned (.plain (OpenSpec.upto bookingRepliesSpec)) bookingRepliesUptoCard

/-- THE SECOND FORM's CARD OF 'jetwaylaw18.BookingCodes'. -/
def bookingCodesUptoCard : Claim7 := { stood := { row := bookingCodesUptoRow, standIns := [], harness := (true, "cae91f812608bd1ccc85a6e8adf44878454e465912f49210b36da1cc4206cde3"), looks := true }, kinds := [], alts := [], laidByText := true, laidKinds := [.data, .data, .data], laidTests := true, laidLooks := .later }
def BookingCodesUptoCardSaid : Prop := Claim7.holds Tryz.pinned (.plain (OpenSpec.upto bookingCodesSpec)) bookingCodesUptoCard

/-- THE SECOND FORM's CARD OF 'jetwaylaw18.BookingBack'. -/
def bookingBackUptoCard : Claim7 := { stood := { row := bookingBackUptoRow, standIns := [], harness := (true, "cae91f812608bd1ccc85a6e8adf44878454e465912f49210b36da1cc4206cde3"), looks := true }, kinds := [], alts := [], laidByText := true, laidKinds := [.data, .data, .data], laidTests := true, laidLooks := .later }
def BookingBackUptoCardSaid : Prop := Claim7.holds Tryz.pinned (.plain (OpenSpec.upto bookingBackSpec)) bookingBackUptoCard

/-- THE SECOND FORM's CARD OF 'jetwaylaw18.BookingHolds'. -/
def bookingHoldsUptoCard : Claim7 := { stood := { row := bookingHoldsUptoRow, standIns := [], harness := (true, "cae91f812608bd1ccc85a6e8adf44878454e465912f49210b36da1cc4206cde3"), looks := true }, kinds := [], alts := [], laidByText := true, laidKinds := [.data, .data, .data], laidTests := true, laidLooks := .later }
def BookingHoldsUptoCardSaid : Prop := Claim7.holds Tryz.pinned (.plain (OpenSpec.upto bookingHoldsSpec)) bookingHoldsUptoCard

/-- THE SECOND FORM's CARD OF 'jetwaylaw18.BookingLoaded'. -/
def bookingLoadedUptoCard : Claim7 := { stood := { row := bookingLoadedUptoRow, standIns := [], harness := (true, "cae91f812608bd1ccc85a6e8adf44878454e465912f49210b36da1cc4206cde3"), looks := true }, kinds := [], alts := [], laidByText := true, laidKinds := [.data, .data, .data], laidTests := true, laidLooks := .later }
def BookingLoadedUptoCardSaid : Prop := Claim7.holds Tryz.pinned (.plain (OpenSpec.upto bookingLoadedSpec)) bookingLoadedUptoCard
end Rows
end Go.Proofs.YtfgbbckfikiomaaGreatDoor
