/-
  DERIVED. GIVEN WITH THE SEED: THE CARDS: each row of YtlaegahdignphaaDoorRows.lean that lists a variable, with what it lists TIED to the program's text (the seventh form; the later family's looks); each row that meets fmt, with fmt's text TOLD by the authors' own Lean function (tested against real Go, not proved from fmt's source: count such statements apart). THE CARD IS WHAT COUNTS. Prove the row's statement (the work); the ties are given (YtlaegahdignphaaDoorTie.lean); close each card by the builder's one call (the guide's Derived/Test/ToyasCard.lean, 'card_holds'). Laid BY PROGRAM, IN A SANDBOX (cutbox-door.mjs). By AI agents, Wed Nov 11 2026. No macro, syntax, notation, axiom, sorry.
-/
import Derived.Test.YtlaegahdignphaaDoorRows
import GoSem.ClaimSeven
namespace Go.Proofs.YtlaegahdignphaaDoor
namespace Rows

/-- THE TIED CARD OF 'punnetlaw03.LevelRoom'. -/
def levelRoomCard : Claim7 := { stood := { row := levelRoomRow, standIns := [], harness := (true, "cc03f76460191a4b07791f2d03e3141cd7535593a1e87e6f1799d67b988cbff2"), looks := false }, kinds := [], alts := [], laidByText := true, laidKinds := [.data, .data], laidTests := true, laidLooks := .later }
def LevelRoomCardSaid : Prop := Claim7.holds Tryd.pinned (.plain (OpenSpec.ofChange levelRoomSpec)) levelRoomCard

/-- THE TIED CARD OF 'punnetlaw03.LevelShapes'. -/
def levelShapesCard : Claim7 := { stood := { row := levelShapesRow, standIns := [], harness := (true, "cc03f76460191a4b07791f2d03e3141cd7535593a1e87e6f1799d67b988cbff2"), looks := false }, kinds := [], alts := [], laidByText := true, laidKinds := [.data, .data], laidTests := true, laidLooks := .later }
def LevelShapesCardSaid : Prop := Claim7.holds Tryd.pinned (.plain (OpenSpec.ofChange levelShapesSpec)) levelShapesCard

/-- THE TIED CARD OF 'punnetlaw03.LevelWindows'. -/
def levelWindowsCard : Claim7 := { stood := { row := levelWindowsRow, standIns := [], harness := (true, "cc03f76460191a4b07791f2d03e3141cd7535593a1e87e6f1799d67b988cbff2"), looks := false }, kinds := [], alts := [], laidByText := true, laidKinds := [.data, .data], laidTests := true, laidLooks := .later }
def LevelWindowsCardSaid : Prop := Claim7.holds Tryd.pinned (.plain (OpenSpec.ofChange levelWindowsSpec)) levelWindowsCard

/-- THE TIED CARD OF 'punnetlaw03.LevelNests'. -/
def levelNestsCard : Claim7 := { stood := { row := levelNestsRow, standIns := [], harness := (true, "cc03f76460191a4b07791f2d03e3141cd7535593a1e87e6f1799d67b988cbff2"), looks := false }, kinds := [], alts := [], laidByText := true, laidKinds := [.data, .data], laidTests := true, laidLooks := .later }
def LevelNestsCardSaid : Prop := Claim7.holds Tryd.pinned (.plain (OpenSpec.ofChange levelNestsSpec)) levelNestsCard

/-- THE TIED CARD OF 'punnetlaw03.LevelBounds'. -/
def levelBoundsCard : Claim7 := { stood := { row := levelBoundsRow, standIns := [], harness := (true, "cc03f76460191a4b07791f2d03e3141cd7535593a1e87e6f1799d67b988cbff2"), looks := false }, kinds := [], alts := [], laidByText := true, laidKinds := [.data, .data], laidTests := true, laidLooks := .later }
def LevelBoundsCardSaid : Prop := Claim7.holds Tryd.pinned (.plain (OpenSpec.ofChange levelBoundsSpec)) levelBoundsCard

/-- THE TIED CARD OF 'punnetlaw03.LevelTurns'. -/
def levelTurnsCard : Claim7 := { stood := { row := levelTurnsRow, standIns := [], harness := (true, "cc03f76460191a4b07791f2d03e3141cd7535593a1e87e6f1799d67b988cbff2"), looks := false }, kinds := [], alts := [], laidByText := true, laidKinds := [.data, .data], laidTests := true, laidLooks := .later }
def LevelTurnsCardSaid : Prop := Claim7.holds Tryd.pinned (.plain (OpenSpec.ofChange levelTurnsSpec)) levelTurnsCard

/-- THE TIED CARD OF 'punnetlaw05.PickPicks'. -/
def pickPicksCard : Claim7 := { stood := { row := pickPicksRow, standIns := [], harness := (true, "cc03f76460191a4b07791f2d03e3141cd7535593a1e87e6f1799d67b988cbff2"), looks := false }, kinds := [], alts := [], laidByText := true, laidKinds := [.data, .data], laidTests := true, laidLooks := .later }
def PickPicksCardSaid : Prop := Claim7.holds Tryd.pinned (.plain (OpenSpec.ofChange pickPicksSpec)) pickPicksCard

/-- THE TIED CARD OF 'punnetlaw05.PickAfter'. -/
def pickAfterCard : Claim7 := { stood := { row := pickAfterRow, standIns := [], harness := (true, "cc03f76460191a4b07791f2d03e3141cd7535593a1e87e6f1799d67b988cbff2"), looks := false }, kinds := [], alts := [], laidByText := true, laidKinds := [.data, .data], laidTests := true, laidLooks := .later }
def PickAfterCardSaid : Prop := Claim7.holds Tryd.pinned (.plain (OpenSpec.ofChange pickAfterSpec)) pickAfterCard

/-- THE TIED CARD OF 'punnetlaw05.PickSmallest'. -/
def pickSmallestCard : Claim7 := { stood := { row := pickSmallestRow, standIns := [], harness := (true, "cc03f76460191a4b07791f2d03e3141cd7535593a1e87e6f1799d67b988cbff2"), looks := false }, kinds := [], alts := [], laidByText := true, laidKinds := [.data, .data], laidTests := true, laidLooks := .later }
def PickSmallestCardSaid : Prop := Claim7.holds Tryd.pinned (.plain (OpenSpec.ofChange pickSmallestSpec)) pickSmallestCard

/-- THE TIED CARD OF 'punnetlaw05.PickChain'. -/
def pickChainCard : Claim7 := { stood := { row := pickChainRow, standIns := [], harness := (true, "cc03f76460191a4b07791f2d03e3141cd7535593a1e87e6f1799d67b988cbff2"), looks := false }, kinds := [], alts := [], laidByText := true, laidKinds := [.data, .data], laidTests := true, laidLooks := .later }
def PickChainCardSaid : Prop := Claim7.holds Tryd.pinned (.plain (OpenSpec.ofChange pickChainSpec)) pickChainCard

/-- THE TIED CARD OF 'punnetlaw05.PickFull'. -/
def pickFullCard : Claim7 := { stood := { row := pickFullRow, standIns := [], harness := (true, "cc03f76460191a4b07791f2d03e3141cd7535593a1e87e6f1799d67b988cbff2"), looks := false }, kinds := [], alts := [], laidByText := true, laidKinds := [.data, .data], laidTests := true, laidLooks := .later }
def PickFullCardSaid : Prop := Claim7.holds Tryd.pinned (.plain (OpenSpec.ofChange pickFullSpec)) pickFullCard

/-- THE TIED CARD OF 'punnetlaw05.PickKeeps'. -/
def pickKeepsCard : Claim7 := { stood := { row := pickKeepsRow, standIns := [], harness := (true, "cc03f76460191a4b07791f2d03e3141cd7535593a1e87e6f1799d67b988cbff2"), looks := false }, kinds := [], alts := [], laidByText := true, laidKinds := [.data, .data], laidTests := true, laidLooks := .later }
def PickKeepsCardSaid : Prop := Claim7.holds Tryd.pinned (.plain (OpenSpec.ofChange pickKeepsSpec)) pickKeepsCard

/-- THE SECOND FORM's CARD OF 'punnetlaw03.LevelRoom'. -/
def levelRoomUptoCard : Claim7 := { stood := { row := levelRoomUptoRow, standIns := [], harness := (true, "cc03f76460191a4b07791f2d03e3141cd7535593a1e87e6f1799d67b988cbff2"), looks := false }, kinds := [], alts := [], laidByText := true, laidKinds := [.data, .data], laidTests := true, laidLooks := .later }
def LevelRoomUptoCardSaid : Prop := Claim7.holds Tryd.pinned (.plain (OpenSpec.upto levelRoomSpec)) levelRoomUptoCard

/-- THE SECOND FORM's CARD OF 'punnetlaw03.LevelShapes'. -/
def levelShapesUptoCard : Claim7 := { stood := { row := levelShapesUptoRow, standIns := [], harness := (true, "cc03f76460191a4b07791f2d03e3141cd7535593a1e87e6f1799d67b988cbff2"), looks := false }, kinds := [], alts := [], laidByText := true, laidKinds := [.data, .data], laidTests := true, laidLooks := .later }
def LevelShapesUptoCardSaid : Prop := Claim7.holds Tryd.pinned (.plain (OpenSpec.upto levelShapesSpec)) levelShapesUptoCard

/-- THE SECOND FORM's CARD OF 'punnetlaw03.LevelWindows'. -/
def levelWindowsUptoCard : Claim7 := { stood := { row := levelWindowsUptoRow, standIns := [], harness := (true, "cc03f76460191a4b07791f2d03e3141cd7535593a1e87e6f1799d67b988cbff2"), looks := false }, kinds := [], alts := [], laidByText := true, laidKinds := [.data, .data], laidTests := true, laidLooks := .later }
def LevelWindowsUptoCardSaid : Prop := Claim7.holds Tryd.pinned (.plain (OpenSpec.upto levelWindowsSpec)) levelWindowsUptoCard

/-- THE SECOND FORM's CARD OF 'punnetlaw03.LevelNests'. -/
def levelNestsUptoCard : Claim7 := { stood := { row := levelNestsUptoRow, standIns := [], harness := (true, "cc03f76460191a4b07791f2d03e3141cd7535593a1e87e6f1799d67b988cbff2"), looks := false }, kinds := [], alts := [], laidByText := true, laidKinds := [.data, .data], laidTests := true, laidLooks := .later }
def LevelNestsUptoCardSaid : Prop := Claim7.holds Tryd.pinned (.plain (OpenSpec.upto levelNestsSpec)) levelNestsUptoCard

/-- THE SECOND FORM's CARD OF 'punnetlaw03.LevelBounds'. -/
def levelBoundsUptoCard : Claim7 := { stood := { row := levelBoundsUptoRow, standIns := [], harness := (true, "cc03f76460191a4b07791f2d03e3141cd7535593a1e87e6f1799d67b988cbff2"), looks := false }, kinds := [], alts := [], laidByText := true, laidKinds := [.data, .data], laidTests := true, laidLooks := .later }
def LevelBoundsUptoCardSaid : Prop := Claim7.holds Tryd.pinned (.plain (OpenSpec.upto levelBoundsSpec)) levelBoundsUptoCard

/-- THE SECOND FORM's CARD OF 'punnetlaw03.LevelTurns'. -/
def levelTurnsUptoCard : Claim7 := { stood := { row := levelTurnsUptoRow, standIns := [], harness := (true, "cc03f76460191a4b07791f2d03e3141cd7535593a1e87e6f1799d67b988cbff2"), looks := false }, kinds := [], alts := [], laidByText := true, laidKinds := [.data, .data], laidTests := true, laidLooks := .later }
def LevelTurnsUptoCardSaid : Prop := Claim7.holds Tryd.pinned (.plain (OpenSpec.upto levelTurnsSpec)) levelTurnsUptoCard

/-- THE SECOND FORM's CARD OF 'punnetlaw05.PickPicks'. -/
def pickPicksUptoCard : Claim7 := { stood := { row := pickPicksUptoRow, standIns := [], harness := (true, "cc03f76460191a4b07791f2d03e3141cd7535593a1e87e6f1799d67b988cbff2"), looks := false }, kinds := [], alts := [], laidByText := true, laidKinds := [.data, .data], laidTests := true, laidLooks := .later }
def PickPicksUptoCardSaid : Prop := Claim7.holds Tryd.pinned (.plain (OpenSpec.upto pickPicksSpec)) pickPicksUptoCard

/-- THE SECOND FORM's CARD OF 'punnetlaw05.PickAfter'. -/
def pickAfterUptoCard : Claim7 := { stood := { row := pickAfterUptoRow, standIns := [], harness := (true, "cc03f76460191a4b07791f2d03e3141cd7535593a1e87e6f1799d67b988cbff2"), looks := false }, kinds := [], alts := [], laidByText := true, laidKinds := [.data, .data], laidTests := true, laidLooks := .later }
def PickAfterUptoCardSaid : Prop := Claim7.holds Tryd.pinned (.plain (OpenSpec.upto pickAfterSpec)) pickAfterUptoCard

/-- THE SECOND FORM's CARD OF 'punnetlaw05.PickSmallest'. -/
def pickSmallestUptoCard : Claim7 := { stood := { row := pickSmallestUptoRow, standIns := [], harness := (true, "cc03f76460191a4b07791f2d03e3141cd7535593a1e87e6f1799d67b988cbff2"), looks := false }, kinds := [], alts := [], laidByText := true, laidKinds := [.data, .data], laidTests := true, laidLooks := .later }
def PickSmallestUptoCardSaid : Prop := Claim7.holds Tryd.pinned (.plain (OpenSpec.upto pickSmallestSpec)) pickSmallestUptoCard

/-- THE SECOND FORM's CARD OF 'punnetlaw05.PickChain'. -/
def pickChainUptoCard : Claim7 := { stood := { row := pickChainUptoRow, standIns := [], harness := (true, "cc03f76460191a4b07791f2d03e3141cd7535593a1e87e6f1799d67b988cbff2"), looks := false }, kinds := [], alts := [], laidByText := true, laidKinds := [.data, .data], laidTests := true, laidLooks := .later }
def PickChainUptoCardSaid : Prop := Claim7.holds Tryd.pinned (.plain (OpenSpec.upto pickChainSpec)) pickChainUptoCard

/-- THE SECOND FORM's CARD OF 'punnetlaw05.PickFull'. -/
def pickFullUptoCard : Claim7 := { stood := { row := pickFullUptoRow, standIns := [], harness := (true, "cc03f76460191a4b07791f2d03e3141cd7535593a1e87e6f1799d67b988cbff2"), looks := false }, kinds := [], alts := [], laidByText := true, laidKinds := [.data, .data], laidTests := true, laidLooks := .later }
def PickFullUptoCardSaid : Prop := Claim7.holds Tryd.pinned (.plain (OpenSpec.upto pickFullSpec)) pickFullUptoCard

/-- THE SECOND FORM's CARD OF 'punnetlaw05.PickKeeps'. -/
def pickKeepsUptoCard : Claim7 := { stood := { row := pickKeepsUptoRow, standIns := [], harness := (true, "cc03f76460191a4b07791f2d03e3141cd7535593a1e87e6f1799d67b988cbff2"), looks := false }, kinds := [], alts := [], laidByText := true, laidKinds := [.data, .data], laidTests := true, laidLooks := .later }
def PickKeepsUptoCardSaid : Prop := Claim7.holds Tryd.pinned (.plain (OpenSpec.upto pickKeepsSpec)) pickKeepsUptoCard
end Rows
end Go.Proofs.YtlaegahdignphaaDoor
