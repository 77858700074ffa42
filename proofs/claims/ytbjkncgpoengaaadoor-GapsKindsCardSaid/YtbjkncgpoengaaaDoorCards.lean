/-
  DERIVED. GIVEN WITH THE SEED: THE CARDS: each row of YtbjkncgpoengaaaDoorRows.lean that lists a variable, with what it lists TIED to the program's text (the seventh form; the later family's looks); each row that meets fmt, with fmt's text TOLD by the authors' own Lean function (tested against real Go, not proved from fmt's source: count such statements apart). THE CARD IS WHAT COUNTS. Prove the row's statement (the work); the ties are given (YtbjkncgpoengaaaDoorTie.lean); close each card by the builder's one call (the guide's Derived/Test/ToyasCard.lean, 'card_holds'). Laid BY PROGRAM, IN A SANDBOX (cutbox-door.mjs). By AI agents, Wed Nov 11 2026. No macro, syntax, notation, axiom, sorry.
-/
import Derived.Test.YtbjkncgpoengaaaDoorRows
import GoSem.ClaimSeven
namespace Go.Proofs.YtbjkncgpoengaaaDoor
namespace Rows

/-- THE TIED CARD OF 'punnetlaw02.GapsKinds'. -/
def gapsKindsCard : Claim7 := { stood := { row := gapsKindsRow, standIns := [], harness := (true, "b4c0f18439fcdc83cdb22427b7315fb963ed9f289faa0c5e208ecf7587fcf698"), looks := false }, kinds := [], alts := [], laidByText := true, laidKinds := [.data], laidTests := true, laidLooks := .later }
def GapsKindsCardSaid : Prop := Claim7.holds Tryd.pinned (.plain (OpenSpec.ofChange gapsKindsSpec)) gapsKindsCard

/-- THE TIED CARD OF 'punnetlaw02.GapsGoes'. -/
def gapsGoesCard : Claim7 := { stood := { row := gapsGoesRow, standIns := [], harness := (true, "b4c0f18439fcdc83cdb22427b7315fb963ed9f289faa0c5e208ecf7587fcf698"), looks := false }, kinds := [], alts := [], laidByText := true, laidKinds := [.data], laidTests := true, laidLooks := .later }
def GapsGoesCardSaid : Prop := Claim7.holds Tryd.pinned (.plain (OpenSpec.ofChange gapsGoesSpec)) gapsGoesCard

/-- THE TIED CARD OF 'punnetlaw02.GapsPlays'. -/
def gapsPlaysCard : Claim7 := { stood := { row := gapsPlaysRow, standIns := [], harness := (true, "b4c0f18439fcdc83cdb22427b7315fb963ed9f289faa0c5e208ecf7587fcf698"), looks := false }, kinds := [], alts := [], laidByText := true, laidKinds := [.data], laidTests := true, laidLooks := .later }
def GapsPlaysCardSaid : Prop := Claim7.holds Tryd.pinned (.plain (OpenSpec.ofChange gapsPlaysSpec)) gapsPlaysCard

/-- THE TIED CARD OF 'punnetlaw10.FindSearches'. -/
def findSearchesCard : Claim7 := { stood := { row := findSearchesRow, standIns := [], harness := (true, "b4c0f18439fcdc83cdb22427b7315fb963ed9f289faa0c5e208ecf7587fcf698"), looks := false }, kinds := [], alts := [], laidByText := true, laidKinds := [.data], laidTests := true, laidLooks := .later }
def FindSearchesCardSaid : Prop := Claim7.holds Tryd.pinned (.plain (OpenSpec.ofChange findSearchesSpec)) findSearchesCard

/-- THE TIED CARD OF 'punnetlaw02.GapsMoves'. -/
def gapsMovesCard : Claim7 := { stood := { row := gapsMovesRow, standIns := [], harness := (true, "b4c0f18439fcdc83cdb22427b7315fb963ed9f289faa0c5e208ecf7587fcf698"), looks := false }, kinds := [], alts := [], laidByText := true, laidKinds := [.data], laidTests := true, laidLooks := .later }
def GapsMovesCardSaid : Prop := Claim7.holds Tryd.pinned (.plain (OpenSpec.ofChange gapsMovesSpec)) gapsMovesCard

/-- THE TIED CARD OF 'punnetlaw10.FindRight'. -/
def findRightCard : Claim7 := { stood := { row := findRightRow, standIns := [], harness := (true, "b4c0f18439fcdc83cdb22427b7315fb963ed9f289faa0c5e208ecf7587fcf698"), looks := false }, kinds := [], alts := [], laidByText := true, laidKinds := [.data], laidTests := true, laidLooks := .later }
def FindRightCardSaid : Prop := Claim7.holds Tryd.pinned (.plain (OpenSpec.ofChange findRightSpec)) findRightCard

/-- THE TIED CARD OF 'punnetlaw10.FindKeeps'. -/
def findKeepsCard : Claim7 := { stood := { row := findKeepsRow, standIns := [], harness := (true, "b4c0f18439fcdc83cdb22427b7315fb963ed9f289faa0c5e208ecf7587fcf698"), looks := false }, kinds := [], alts := [], laidByText := true, laidKinds := [.data], laidTests := true, laidLooks := .later }
def FindKeepsCardSaid : Prop := Claim7.holds Tryd.pinned (.plain (OpenSpec.ofChange findKeepsSpec)) findKeepsCard

/-- THE TIED CARD OF 'punnetlaw02.GapsNear'. -/
def gapsNearCard : Claim7 := { stood := { row := gapsNearRow, standIns := [], harness := (true, "b4c0f18439fcdc83cdb22427b7315fb963ed9f289faa0c5e208ecf7587fcf698"), looks := false }, kinds := [], alts := [], laidByText := true, laidKinds := [.data], laidTests := true, laidLooks := .later }
def GapsNearCardSaid : Prop := Claim7.holds Tryd.pinned (.plain (OpenSpec.ofChange gapsNearSpec)) gapsNearCard

/-- THE TIED CARD OF 'punnetlaw02.GapsOwn'. -/
def gapsOwnCard : Claim7 := { stood := { row := gapsOwnRow, standIns := [], harness := (true, "b4c0f18439fcdc83cdb22427b7315fb963ed9f289faa0c5e208ecf7587fcf698"), looks := false }, kinds := [], alts := [], laidByText := true, laidKinds := [.data], laidTests := true, laidLooks := .later }
def GapsOwnCardSaid : Prop := Claim7.holds Tryd.pinned (.plain (OpenSpec.ofChange gapsOwnSpec)) gapsOwnCard

/-- THE TIED CARD OF 'punnetlaw10.FindRanks'. -/
def findRanksCard : Claim7 := { stood := { row := findRanksRow, standIns := [], harness := (true, "b4c0f18439fcdc83cdb22427b7315fb963ed9f289faa0c5e208ecf7587fcf698"), looks := false }, kinds := [], alts := [], laidByText := true, laidKinds := [.data], laidTests := true, laidLooks := .later }
def FindRanksCardSaid : Prop := Claim7.holds Tryd.pinned (.plain (OpenSpec.ofChange findRanksSpec)) findRanksCard

/-- THE SECOND FORM's CARD OF 'punnetlaw02.GapsKinds'. -/
def gapsKindsUptoCard : Claim7 := { stood := { row := gapsKindsUptoRow, standIns := [], harness := (true, "b4c0f18439fcdc83cdb22427b7315fb963ed9f289faa0c5e208ecf7587fcf698"), looks := false }, kinds := [], alts := [], laidByText := true, laidKinds := [.data], laidTests := true, laidLooks := .later }
def GapsKindsUptoCardSaid : Prop := Claim7.holds Tryd.pinned (.plain (OpenSpec.upto gapsKindsSpec)) gapsKindsUptoCard

/-- THE SECOND FORM's CARD OF 'punnetlaw02.GapsGoes'. -/
def gapsGoesUptoCard : Claim7 := { stood := { row := gapsGoesUptoRow, standIns := [], harness := (true, "b4c0f18439fcdc83cdb22427b7315fb963ed9f289faa0c5e208ecf7587fcf698"), looks := false }, kinds := [], alts := [], laidByText := true, laidKinds := [.data], laidTests := true, laidLooks := .later }
def GapsGoesUptoCardSaid : Prop := Claim7.holds Tryd.pinned (.plain (OpenSpec.upto gapsGoesSpec)) gapsGoesUptoCard

/-- THE SECOND FORM's CARD OF 'punnetlaw02.GapsPlays'. -/
def gapsPlaysUptoCard : Claim7 := { stood := { row := gapsPlaysUptoRow, standIns := [], harness := (true, "b4c0f18439fcdc83cdb22427b7315fb963ed9f289faa0c5e208ecf7587fcf698"), looks := false }, kinds := [], alts := [], laidByText := true, laidKinds := [.data], laidTests := true, laidLooks := .later }
def GapsPlaysUptoCardSaid : Prop := Claim7.holds Tryd.pinned (.plain (OpenSpec.upto gapsPlaysSpec)) gapsPlaysUptoCard

/-- THE SECOND FORM's CARD OF 'punnetlaw10.FindSearches'. -/
def findSearchesUptoCard : Claim7 := { stood := { row := findSearchesUptoRow, standIns := [], harness := (true, "b4c0f18439fcdc83cdb22427b7315fb963ed9f289faa0c5e208ecf7587fcf698"), looks := false }, kinds := [], alts := [], laidByText := true, laidKinds := [.data], laidTests := true, laidLooks := .later }
def FindSearchesUptoCardSaid : Prop := Claim7.holds Tryd.pinned (.plain (OpenSpec.upto findSearchesSpec)) findSearchesUptoCard

/-- THE SECOND FORM's CARD OF 'punnetlaw02.GapsMoves'. -/
def gapsMovesUptoCard : Claim7 := { stood := { row := gapsMovesUptoRow, standIns := [], harness := (true, "b4c0f18439fcdc83cdb22427b7315fb963ed9f289faa0c5e208ecf7587fcf698"), looks := false }, kinds := [], alts := [], laidByText := true, laidKinds := [.data], laidTests := true, laidLooks := .later }
def GapsMovesUptoCardSaid : Prop := Claim7.holds Tryd.pinned (.plain (OpenSpec.upto gapsMovesSpec)) gapsMovesUptoCard

/-- THE SECOND FORM's CARD OF 'punnetlaw10.FindRight'. -/
def findRightUptoCard : Claim7 := { stood := { row := findRightUptoRow, standIns := [], harness := (true, "b4c0f18439fcdc83cdb22427b7315fb963ed9f289faa0c5e208ecf7587fcf698"), looks := false }, kinds := [], alts := [], laidByText := true, laidKinds := [.data], laidTests := true, laidLooks := .later }
def FindRightUptoCardSaid : Prop := Claim7.holds Tryd.pinned (.plain (OpenSpec.upto findRightSpec)) findRightUptoCard

/-- THE SECOND FORM's CARD OF 'punnetlaw10.FindKeeps'. -/
def findKeepsUptoCard : Claim7 := { stood := { row := findKeepsUptoRow, standIns := [], harness := (true, "b4c0f18439fcdc83cdb22427b7315fb963ed9f289faa0c5e208ecf7587fcf698"), looks := false }, kinds := [], alts := [], laidByText := true, laidKinds := [.data], laidTests := true, laidLooks := .later }
def FindKeepsUptoCardSaid : Prop := Claim7.holds Tryd.pinned (.plain (OpenSpec.upto findKeepsSpec)) findKeepsUptoCard

/-- THE SECOND FORM's CARD OF 'punnetlaw02.GapsNear'. -/
def gapsNearUptoCard : Claim7 := { stood := { row := gapsNearUptoRow, standIns := [], harness := (true, "b4c0f18439fcdc83cdb22427b7315fb963ed9f289faa0c5e208ecf7587fcf698"), looks := false }, kinds := [], alts := [], laidByText := true, laidKinds := [.data], laidTests := true, laidLooks := .later }
def GapsNearUptoCardSaid : Prop := Claim7.holds Tryd.pinned (.plain (OpenSpec.upto gapsNearSpec)) gapsNearUptoCard

/-- THE SECOND FORM's CARD OF 'punnetlaw02.GapsOwn'. -/
def gapsOwnUptoCard : Claim7 := { stood := { row := gapsOwnUptoRow, standIns := [], harness := (true, "b4c0f18439fcdc83cdb22427b7315fb963ed9f289faa0c5e208ecf7587fcf698"), looks := false }, kinds := [], alts := [], laidByText := true, laidKinds := [.data], laidTests := true, laidLooks := .later }
def GapsOwnUptoCardSaid : Prop := Claim7.holds Tryd.pinned (.plain (OpenSpec.upto gapsOwnSpec)) gapsOwnUptoCard

/-- THE SECOND FORM's CARD OF 'punnetlaw10.FindRanks'. -/
def findRanksUptoCard : Claim7 := { stood := { row := findRanksUptoRow, standIns := [], harness := (true, "b4c0f18439fcdc83cdb22427b7315fb963ed9f289faa0c5e208ecf7587fcf698"), looks := false }, kinds := [], alts := [], laidByText := true, laidKinds := [.data], laidTests := true, laidLooks := .later }
def FindRanksUptoCardSaid : Prop := Claim7.holds Tryd.pinned (.plain (OpenSpec.upto findRanksSpec)) findRanksUptoCard
end Rows
end Go.Proofs.YtbjkncgpoengaaaDoor
