/-
  DERIVED. GIVEN WITH THE SEED: THE CARDS: each row of YtkfedbncmfnpnaaGreatDoorRows.lean that lists a variable, with what it lists TIED to the program's text (the seventh form; the later family's looks); each row that meets fmt, with fmt's text TOLD by the authors' own Lean function (tested against real Go, not proved from fmt's source: count such statements apart). THE CARD IS WHAT COUNTS. Prove the row's statement (the work); the ties are given (YtkfedbncmfnpnaaGreatDoorTie.lean); close each card by the builder's one call (the guide's Derived/Test/ToyasCard.lean, 'card_holds'). Laid BY PROGRAM, IN A SANDBOX (cutbox-door.mjs). By AI agents, Wed Nov 11 2026. No macro, syntax, notation, axiom, sorry.
-/
import Derived.Test.YtkfedbncmfnpnaaGreatDoorRows
import GoSem.ClaimSeven
namespace Go.Proofs.YtkfedbncmfnpnaaGreatDoor
namespace Rows

/-- THE TIED CARD OF 'jetwaylaw06.WalOpens'. -/
def walOpensCard : Claim7 := { stood := { row := walOpensRow, standIns := [], harness := (true, "c7f536d0f4bf2d116850f0dd5728a9626e01ad0d2a18b651dcd333cbea065072"), looks := true }, kinds := [], alts := [], laidByText := true, laidKinds := [.data, .data, .data, .sentinel, .sentinel], laidTests := true, laidLooks := .later }
def WalOpensCardSaid : Prop := Claim7.holds Tryz.pinned (.plain (OpenSpec.ofChange walOpensSpec)) walOpensCard

/-- THE TIED CARD OF 'jetwaylaw06.WalDrops'. -/
def walDropsCard : Claim7 := { stood := { row := walDropsRow, standIns := [], harness := (true, "c7f536d0f4bf2d116850f0dd5728a9626e01ad0d2a18b651dcd333cbea065072"), looks := true }, kinds := [], alts := [], laidByText := true, laidKinds := [.data, .data, .data, .sentinel, .sentinel], laidTests := true, laidLooks := .later }
def WalDropsCardSaid : Prop := Claim7.holds Tryz.pinned (.plain (OpenSpec.ofChange walDropsSpec)) walDropsCard

/-- THE TIED CARD OF 'jetwaylaw06.WalBack'. -/
def walBackCard : Claim7 := { stood := { row := walBackRow, standIns := [], harness := (true, "c7f536d0f4bf2d116850f0dd5728a9626e01ad0d2a18b651dcd333cbea065072"), looks := true }, kinds := [], alts := [], laidByText := true, laidKinds := [.data, .data, .data, .sentinel, .sentinel], laidTests := true, laidLooks := .later }
def WalBackCardSaid : Prop := Claim7.holds Tryz.pinned (.plain (OpenSpec.ofChange walBackSpec)) walBackCard

/-- THE TIED CARD OF 'jetwaylaw06.WalLasts'. -/
def walLastsCard : Claim7 := { stood := { row := walLastsRow, standIns := [], harness := (true, "c7f536d0f4bf2d116850f0dd5728a9626e01ad0d2a18b651dcd333cbea065072"), looks := true }, kinds := [], alts := [], laidByText := true, laidKinds := [.data, .data, .data, .sentinel, .sentinel], laidTests := true, laidLooks := .later }
def WalLastsCardSaid : Prop := Claim7.holds Tryz.pinned (.plain (OpenSpec.ofChange walLastsSpec)) walLastsCard

/-- THE TIED CARD OF 'jetwaylaw06.WalScripts'. -/
def walScriptsCard : Claim7 := { stood := { row := walScriptsRow, standIns := [], harness := (true, "c7f536d0f4bf2d116850f0dd5728a9626e01ad0d2a18b651dcd333cbea065072"), looks := true }, kinds := [], alts := [], laidByText := true, laidKinds := [.data, .data, .data, .sentinel, .sentinel], laidTests := true, laidLooks := .later }
def WalScriptsCardSaid : Prop := Claim7.holds Tryz.pinned (.plain (OpenSpec.ofChange walScriptsSpec)) walScriptsCard

/-- THE SECOND FORM's CARD OF 'jetwaylaw06.WalOpens'. -/
def walOpensUptoCard : Claim7 := { stood := { row := walOpensUptoRow, standIns := [], harness := (true, "c7f536d0f4bf2d116850f0dd5728a9626e01ad0d2a18b651dcd333cbea065072"), looks := true }, kinds := [], alts := [], laidByText := true, laidKinds := [.data, .data, .data, .sentinel, .sentinel], laidTests := true, laidLooks := .later }
def WalOpensUptoCardSaid : Prop := Claim7.holds Tryz.pinned (.plain (OpenSpec.upto walOpensSpec)) walOpensUptoCard

/-- THE SECOND FORM's CARD OF 'jetwaylaw06.WalDrops'. -/
def walDropsUptoCard : Claim7 := { stood := { row := walDropsUptoRow, standIns := [], harness := (true, "c7f536d0f4bf2d116850f0dd5728a9626e01ad0d2a18b651dcd333cbea065072"), looks := true }, kinds := [], alts := [], laidByText := true, laidKinds := [.data, .data, .data, .sentinel, .sentinel], laidTests := true, laidLooks := .later }
def WalDropsUptoCardSaid : Prop := Claim7.holds Tryz.pinned (.plain (OpenSpec.upto walDropsSpec)) walDropsUptoCard

/-- THE SECOND FORM's CARD OF 'jetwaylaw06.WalBack'. -/
def walBackUptoCard : Claim7 := { stood := { row := walBackUptoRow, standIns := [], harness := (true, "c7f536d0f4bf2d116850f0dd5728a9626e01ad0d2a18b651dcd333cbea065072"), looks := true }, kinds := [], alts := [], laidByText := true, laidKinds := [.data, .data, .data, .sentinel, .sentinel], laidTests := true, laidLooks := .later }
def WalBackUptoCardSaid : Prop := Claim7.holds Tryz.pinned (.plain (OpenSpec.upto walBackSpec)) walBackUptoCard

/-- THE SECOND FORM's CARD OF 'jetwaylaw06.WalLasts'. -/
def walLastsUptoCard : Claim7 := { stood := { row := walLastsUptoRow, standIns := [], harness := (true, "c7f536d0f4bf2d116850f0dd5728a9626e01ad0d2a18b651dcd333cbea065072"), looks := true }, kinds := [], alts := [], laidByText := true, laidKinds := [.data, .data, .data, .sentinel, .sentinel], laidTests := true, laidLooks := .later }
def WalLastsUptoCardSaid : Prop := Claim7.holds Tryz.pinned (.plain (OpenSpec.upto walLastsSpec)) walLastsUptoCard

/-- THE SECOND FORM's CARD OF 'jetwaylaw06.WalScripts'. -/
def walScriptsUptoCard : Claim7 := { stood := { row := walScriptsUptoRow, standIns := [], harness := (true, "c7f536d0f4bf2d116850f0dd5728a9626e01ad0d2a18b651dcd333cbea065072"), looks := true }, kinds := [], alts := [], laidByText := true, laidKinds := [.data, .data, .data, .sentinel, .sentinel], laidTests := true, laidLooks := .later }
def WalScriptsUptoCardSaid : Prop := Claim7.holds Tryz.pinned (.plain (OpenSpec.upto walScriptsSpec)) walScriptsUptoCard
end Rows
end Go.Proofs.YtkfedbncmfnpnaaGreatDoor
