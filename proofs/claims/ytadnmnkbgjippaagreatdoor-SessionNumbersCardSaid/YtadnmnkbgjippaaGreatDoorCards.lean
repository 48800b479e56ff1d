/-
  DERIVED. GIVEN WITH THE SEED: THE CARDS: each row of YtadnmnkbgjippaaGreatDoorRows.lean that lists a variable, with what it lists TIED to the program's text (the seventh form; the later family's looks); each row that meets fmt, with fmt's text TOLD by the authors' own Lean function (tested against real Go, not proved from fmt's source: count such statements apart). THE CARD IS WHAT COUNTS. Prove the row's statement (the work); the ties are given (YtadnmnkbgjippaaGreatDoorTie.lean); close each card by the builder's one call (the guide's Derived/Test/ToyasCard.lean, 'card_holds'). Laid BY PROGRAM, IN A SANDBOX (cutbox-door.mjs). By AI agents, Wed Nov 11 2026. No macro, syntax, notation, axiom, sorry.
-/
import Derived.Test.YtadnmnkbgjippaaGreatDoorRows
import GoSem.ClaimSeven
namespace Go.Proofs.YtadnmnkbgjippaaGreatDoor
namespace Rows

/-- THE TIED CARD OF 'jetwaylaw19.SessionCodes'. -/
def sessionCodesCard : Claim7 := { stood := { row := sessionCodesRow, standIns := [], harness := (true, "07f5cfe92a0efd11362fb519736d84676454abf638d47e7625a79b61c177d9f8"), looks := true }, kinds := [], alts := [], laidByText := true, laidKinds := [.data, .data, .data], laidTests := true, laidLooks := .later }
def SessionCodesCardSaid : Prop := Claim7.holds Tryz.pinned (.plain (OpenSpec.ofChange sessionCodesSpec)) sessionCodesCard

/-- THE TIED CARD OF 'jetwaylaw19.SessionNumbers'. -/
def sessionNumbersCard : Claim7 := { stood := { row := sessionNumbersRow, standIns := [], harness := (true, "07f5cfe92a0efd11362fb519736d84676454abf638d47e7625a79b61c177d9f8"), looks := true }, kinds := [], alts := [], laidByText := true, laidKinds := [.data, .data, .data], laidTests := true, laidLooks := .later }
def SessionNumbersCardSaid : Prop := Claim7.holds Tryz.pinned (.plain (OpenSpec.ofChange sessionNumbersSpec)) sessionNumbersCard

/-- THE TIED CARD OF 'jetwaylaw19.SessionAnswers'. -/
def sessionAnswersCard : Claim7 := { stood := { row := sessionAnswersRow, standIns := [], harness := (true, "07f5cfe92a0efd11362fb519736d84676454abf638d47e7625a79b61c177d9f8"), looks := true }, kinds := [], alts := [], laidByText := true, laidKinds := [.data, .data, .data], laidTests := true, laidLooks := .later }
def SessionAnswersCardSaid : Prop := Claim7.holds Tryz.pinned (.plain (OpenSpec.ofChange sessionAnswersSpec)) sessionAnswersCard

/-- THE SECOND FORM's CARD OF 'jetwaylaw19.SessionCodes'. -/
def sessionCodesUptoCard : Claim7 := { stood := { row := sessionCodesUptoRow, standIns := [], harness := (true, "07f5cfe92a0efd11362fb519736d84676454abf638d47e7625a79b61c177d9f8"), looks := true }, kinds := [], alts := [], laidByText := true, laidKinds := [.data, .data, .data], laidTests := true, laidLooks := .later }
def SessionCodesUptoCardSaid : Prop := Claim7.holds Tryz.pinned (.plain (OpenSpec.upto sessionCodesSpec)) sessionCodesUptoCard

/-- THE SECOND FORM's CARD OF 'jetwaylaw19.SessionNumbers'. -/
def sessionNumbersUptoCard : Claim7 := { stood := { row := sessionNumbersUptoRow, standIns := [], harness := (true, "07f5cfe92a0efd11362fb519736d84676454abf638d47e7625a79b61c177d9f8"), looks := true }, kinds := [], alts := [], laidByText := true, laidKinds := [.data, .data, .data], laidTests := true, laidLooks := .later }
def SessionNumbersUptoCardSaid : Prop := Claim7.holds Tryz.pinned (.plain (OpenSpec.upto sessionNumbersSpec)) sessionNumbersUptoCard

/-- THE SECOND FORM's CARD OF 'jetwaylaw19.SessionAnswers'. -/
def sessionAnswersUptoCard : Claim7 := { stood := { row := sessionAnswersUptoRow, standIns := [], harness := (true, "07f5cfe92a0efd11362fb519736d84676454abf638d47e7625a79b61c177d9f8"), looks := true }, kinds := [], alts := [], laidByText := true, laidKinds := [.data, .data, .data], laidTests := true, laidLooks := .later }
def SessionAnswersUptoCardSaid : Prop := Claim7.holds Tryz.pinned (.plain (OpenSpec.upto sessionAnswersSpec)) sessionAnswersUptoCard
end Rows
end Go.Proofs.YtadnmnkbgjippaaGreatDoor
