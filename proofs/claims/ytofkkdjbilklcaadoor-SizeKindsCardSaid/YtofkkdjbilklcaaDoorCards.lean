/-
  DERIVED. GIVEN WITH THE SEED: THE CARDS: each row of YtofkkdjbilklcaaDoorRows.lean that lists a variable, with what it lists TIED to the program's text (the seventh form; the later family's looks); each row that meets fmt, with fmt's text TOLD by the authors' own Lean function (tested against real Go, not proved from fmt's source: count such statements apart). THE CARD IS WHAT COUNTS. Prove the row's statement (the work); the ties are given (YtofkkdjbilklcaaDoorTie.lean); close each card by the builder's one call (the guide's Derived/Test/ToyasCard.lean, 'card_holds'). Laid BY PROGRAM, IN A SANDBOX (cutbox-door.mjs). By AI agents, Wed Nov 11 2026. No macro, syntax, notation, axiom, sorry.
-/
import Derived.Test.YtofkkdjbilklcaaDoorRows
import GoSem.ClaimSeven
namespace Go.Proofs.YtofkkdjbilklcaaDoor
namespace Rows

/-- THE TIED CARD OF 'punnetlaw07.RebalOpens'. -/
def rebalOpensCard : Claim7 := { stood := { row := rebalOpensRow, standIns := [], harness := (true, "a5fc5bd53f2e2fdf0f32a35b18f9bcede903d198e460a50fde3acb5d7762422b"), looks := false }, kinds := [], alts := [], laidByText := true, laidKinds := [.data], laidTests := true, laidLooks := .later }
def RebalOpensCardSaid : Prop := Claim7.holds Tryd.pinned (.plain (OpenSpec.ofChange rebalOpensSpec)) rebalOpensCard

/-- THE TIED CARD OF 'punnetlaw07.RebalMoves'. -/
def rebalMovesCard : Claim7 := { stood := { row := rebalMovesRow, standIns := [], harness := (true, "a5fc5bd53f2e2fdf0f32a35b18f9bcede903d198e460a50fde3acb5d7762422b"), looks := false }, kinds := [], alts := [], laidByText := true, laidKinds := [.data], laidTests := true, laidLooks := .later }
def RebalMovesCardSaid : Prop := Claim7.holds Tryd.pinned (.plain (OpenSpec.ofChange rebalMovesSpec)) rebalMovesCard

/-- THE TIED CARD OF 'punnetlaw07.RebalFollows'. -/
def rebalFollowsCard : Claim7 := { stood := { row := rebalFollowsRow, standIns := [], harness := (true, "a5fc5bd53f2e2fdf0f32a35b18f9bcede903d198e460a50fde3acb5d7762422b"), looks := false }, kinds := [], alts := [], laidByText := true, laidKinds := [.data], laidTests := true, laidLooks := .later }
def RebalFollowsCardSaid : Prop := Claim7.holds Tryd.pinned (.plain (OpenSpec.ofChange rebalFollowsSpec)) rebalFollowsCard

/-- THE TIED CARD OF 'punnetlaw07.RebalNil'. -/
def rebalNilCard : Claim7 := { stood := { row := rebalNilRow, standIns := [], harness := (true, "a5fc5bd53f2e2fdf0f32a35b18f9bcede903d198e460a50fde3acb5d7762422b"), looks := false }, kinds := [], alts := [], laidByText := true, laidKinds := [.data], laidTests := true, laidLooks := .later }
def RebalNilCardSaid : Prop := Claim7.holds Tryd.pinned (.plain (OpenSpec.ofChange rebalNilSpec)) rebalNilCard

/-- THE TIED CARD OF 'punnetlaw08.SizeKinds'. -/
def sizeKindsCard : Claim7 := { stood := { row := sizeKindsRow, standIns := [], harness := (true, "a5fc5bd53f2e2fdf0f32a35b18f9bcede903d198e460a50fde3acb5d7762422b"), looks := false }, kinds := [], alts := [], laidByText := true, laidKinds := [.data, .data], laidTests := true, laidLooks := .later }
def SizeKindsCardSaid : Prop := Claim7.holds Tryd.pinned (.plain (OpenSpec.ofChange sizeKindsSpec)) sizeKindsCard

/-- THE TIED CARD OF 'punnetlaw08.SizeResizes'. -/
def sizeResizesCard : Claim7 := { stood := { row := sizeResizesRow, standIns := [], harness := (true, "a5fc5bd53f2e2fdf0f32a35b18f9bcede903d198e460a50fde3acb5d7762422b"), looks := false }, kinds := [], alts := [], laidByText := true, laidKinds := [.data, .data], laidTests := true, laidLooks := .later }
def SizeResizesCardSaid : Prop := Claim7.holds Tryd.pinned (.plain (OpenSpec.ofChange sizeResizesSpec)) sizeResizesCard

/-- THE TIED CARD OF 'punnetlaw08.SizeOf'. -/
def sizeOfCard : Claim7 := { stood := { row := sizeOfRow, standIns := [], harness := (true, "a5fc5bd53f2e2fdf0f32a35b18f9bcede903d198e460a50fde3acb5d7762422b"), looks := false }, kinds := [], alts := [], laidByText := true, laidKinds := [.data, .data], laidTests := true, laidLooks := .later }
def SizeOfCardSaid : Prop := Claim7.holds Tryd.pinned (.plain (OpenSpec.ofChange sizeOfSpec)) sizeOfCard

/-- THE TIED CARD OF 'punnetlaw08.SizeLeast'. -/
def sizeLeastCard : Claim7 := { stood := { row := sizeLeastRow, standIns := [], harness := (true, "a5fc5bd53f2e2fdf0f32a35b18f9bcede903d198e460a50fde3acb5d7762422b"), looks := false }, kinds := [], alts := [], laidByText := true, laidKinds := [.data, .data], laidTests := true, laidLooks := .later }
def SizeLeastCardSaid : Prop := Claim7.holds Tryd.pinned (.plain (OpenSpec.ofChange sizeLeastSpec)) sizeLeastCard

/-- THE TIED CARD OF 'punnetlaw08.SizeTells'. -/
def sizeTellsCard : Claim7 := { stood := { row := sizeTellsRow, standIns := [], harness := (true, "a5fc5bd53f2e2fdf0f32a35b18f9bcede903d198e460a50fde3acb5d7762422b"), looks := false }, kinds := [], alts := [], laidByText := true, laidKinds := [.data, .data], laidTests := true, laidLooks := .later }
def SizeTellsCardSaid : Prop := Claim7.holds Tryd.pinned (.plain (OpenSpec.ofChange sizeTellsSpec)) sizeTellsCard

/-- THE TIED CARD OF 'punnetlaw07.RebalOpen'. -/
def rebalOpenCard : Claim7 := { stood := { row := rebalOpenRow, standIns := [], harness := (true, "a5fc5bd53f2e2fdf0f32a35b18f9bcede903d198e460a50fde3acb5d7762422b"), looks := false }, kinds := [], alts := [], laidByText := true, laidKinds := [.data], laidTests := true, laidLooks := .later }
def RebalOpenCardSaid : Prop := Claim7.holds Tryd.pinned (.plain (OpenSpec.ofChange rebalOpenSpec)) rebalOpenCard

/-- THE TIED CARD OF 'punnetlaw07.RebalEven'. -/
def rebalEvenCard : Claim7 := { stood := { row := rebalEvenRow, standIns := [], harness := (true, "a5fc5bd53f2e2fdf0f32a35b18f9bcede903d198e460a50fde3acb5d7762422b"), looks := false }, kinds := [], alts := [], laidByText := true, laidKinds := [.data], laidTests := true, laidLooks := .later }
def RebalEvenCardSaid : Prop := Claim7.holds Tryd.pinned (.plain (OpenSpec.ofChange rebalEvenSpec)) rebalEvenCard

/-- THE TIED CARD OF 'punnetlaw08.SizeTurns'. -/
def sizeTurnsCard : Claim7 := { stood := { row := sizeTurnsRow, standIns := [], harness := (true, "a5fc5bd53f2e2fdf0f32a35b18f9bcede903d198e460a50fde3acb5d7762422b"), looks := false }, kinds := [], alts := [], laidByText := true, laidKinds := [.data, .data], laidTests := true, laidLooks := .later }
def SizeTurnsCardSaid : Prop := Claim7.holds Tryd.pinned (.plain (OpenSpec.ofChange sizeTurnsSpec)) sizeTurnsCard

/-- THE SECOND FORM's CARD OF 'punnetlaw07.RebalOpens'. -/
def rebalOpensUptoCard : Claim7 := { stood := { row := rebalOpensUptoRow, standIns := [], harness := (true, "a5fc5bd53f2e2fdf0f32a35b18f9bcede903d198e460a50fde3acb5d7762422b"), looks := false }, kinds := [], alts := [], laidByText := true, laidKinds := [.data], laidTests := true, laidLooks := .later }
def RebalOpensUptoCardSaid : Prop := Claim7.holds Tryd.pinned (.plain (OpenSpec.upto rebalOpensSpec)) rebalOpensUptoCard

/-- THE SECOND FORM's CARD OF 'punnetlaw07.RebalMoves'. -/
def rebalMovesUptoCard : Claim7 := { stood := { row := rebalMovesUptoRow, standIns := [], harness := (true, "a5fc5bd53f2e2fdf0f32a35b18f9bcede903d198e460a50fde3acb5d7762422b"), looks := false }, kinds := [], alts := [], laidByText := true, laidKinds := [.data], laidTests := true, laidLooks := .later }
def RebalMovesUptoCardSaid : Prop := Claim7.holds Tryd.pinned (.plain (OpenSpec.upto rebalMovesSpec)) rebalMovesUptoCard

/-- THE SECOND FORM's CARD OF 'punnetlaw07.RebalFollows'. -/
def rebalFollowsUptoCard : Claim7 := { stood := { row := rebalFollowsUptoRow, standIns := [], harness := (true, "a5fc5bd53f2e2fdf0f32a35b18f9bcede903d198e460a50fde3acb5d7762422b"), looks := false }, kinds := [], alts := [], laidByText := true, laidKinds := [.data], laidTests := true, laidLooks := .later }
def RebalFollowsUptoCardSaid : Prop := Claim7.holds Tryd.pinned (.plain (OpenSpec.upto rebalFollowsSpec)) rebalFollowsUptoCard

/-- THE SECOND FORM's CARD OF 'punnetlaw07.RebalNil'. -/
def rebalNilUptoCard : Claim7 := { stood := { row := rebalNilUptoRow, standIns := [], harness := (true, "a5fc5bd53f2e2fdf0f32a35b18f9bcede903d198e460a50fde3acb5d7762422b"), looks := false }, kinds := [], alts := [], laidByText := true, laidKinds := [.data], laidTests := true, laidLooks := .later }
def RebalNilUptoCardSaid : Prop := Claim7.holds Tryd.pinned (.plain (OpenSpec.upto rebalNilSpec)) rebalNilUptoCard

/-- THE SECOND FORM's CARD OF 'punnetlaw08.SizeKinds'. -/
def sizeKindsUptoCard : Claim7 := { stood := { row := sizeKindsUptoRow, standIns := [], harness := (true, "a5fc5bd53f2e2fdf0f32a35b18f9bcede903d198e460a50fde3acb5d7762422b"), looks := false }, kinds := [], alts := [], laidByText := true, laidKinds := [.data, .data], laidTests := true, laidLooks := .later }
def SizeKindsUptoCardSaid : Prop := Claim7.holds Tryd.pinned (.plain (OpenSpec.upto sizeKindsSpec)) sizeKindsUptoCard

/-- THE SECOND FORM's CARD OF 'punnetlaw08.SizeResizes'. -/
def sizeResizesUptoCard : Claim7 := { stood := { row := sizeResizesUptoRow, standIns := [], harness := (true, "a5fc5bd53f2e2fdf0f32a35b18f9bcede903d198e460a50fde3acb5d7762422b"), looks := false }, kinds := [], alts := [], laidByText := true, laidKinds := [.data, .data], laidTests := true, laidLooks := .later }
def SizeResizesUptoCardSaid : Prop := Claim7.holds Tryd.pinned (.plain (OpenSpec.upto sizeResizesSpec)) sizeResizesUptoCard

/-- THE SECOND FORM's CARD OF 'punnetlaw08.SizeOf'. -/
def sizeOfUptoCard : Claim7 := { stood := { row := sizeOfUptoRow, standIns := [], harness := (true, "a5fc5bd53f2e2fdf0f32a35b18f9bcede903d198e460a50fde3acb5d7762422b"), looks := false }, kinds := [], alts := [], laidByText := true, laidKinds := [.data, .data], laidTests := true, laidLooks := .later }
def SizeOfUptoCardSaid : Prop := Claim7.holds Tryd.pinned (.plain (OpenSpec.upto sizeOfSpec)) sizeOfUptoCard

/-- THE SECOND FORM's CARD OF 'punnetlaw08.SizeLeast'. -/
def sizeLeastUptoCard : Claim7 := { stood := { row := sizeLeastUptoRow, standIns := [], harness := (true, "a5fc5bd53f2e2fdf0f32a35b18f9bcede903d198e460a50fde3acb5d7762422b"), looks := false }, kinds := [], alts := [], laidByText := true, laidKinds := [.data, .data], laidTests := true, laidLooks := .later }
def SizeLeastUptoCardSaid : Prop := Claim7.holds Tryd.pinned (.plain (OpenSpec.upto sizeLeastSpec)) sizeLeastUptoCard

/-- THE SECOND FORM's CARD OF 'punnetlaw08.SizeTells'. -/
def sizeTellsUptoCard : Claim7 := { stood := { row := sizeTellsUptoRow, standIns := [], harness := (true, "a5fc5bd53f2e2fdf0f32a35b18f9bcede903d198e460a50fde3acb5d7762422b"), looks := false }, kinds := [], alts := [], laidByText := true, laidKinds := [.data, .data], laidTests := true, laidLooks := .later }
def SizeTellsUptoCardSaid : Prop := Claim7.holds Tryd.pinned (.plain (OpenSpec.upto sizeTellsSpec)) sizeTellsUptoCard

/-- THE SECOND FORM's CARD OF 'punnetlaw07.RebalOpen'. -/
def rebalOpenUptoCard : Claim7 := { stood := { row := rebalOpenUptoRow, standIns := [], harness := (true, "a5fc5bd53f2e2fdf0f32a35b18f9bcede903d198e460a50fde3acb5d7762422b"), looks := false }, kinds := [], alts := [], laidByText := true, laidKinds := [.data], laidTests := true, laidLooks := .later }
def RebalOpenUptoCardSaid : Prop := Claim7.holds Tryd.pinned (.plain (OpenSpec.upto rebalOpenSpec)) rebalOpenUptoCard

/-- THE SECOND FORM's CARD OF 'punnetlaw07.RebalEven'. -/
def rebalEvenUptoCard : Claim7 := { stood := { row := rebalEvenUptoRow, standIns := [], harness := (true, "a5fc5bd53f2e2fdf0f32a35b18f9bcede903d198e460a50fde3acb5d7762422b"), looks := false }, kinds := [], alts := [], laidByText := true, laidKinds := [.data], laidTests := true, laidLooks := .later }
def RebalEvenUptoCardSaid : Prop := Claim7.holds Tryd.pinned (.plain (OpenSpec.upto rebalEvenSpec)) rebalEvenUptoCard

/-- THE SECOND FORM's CARD OF 'punnetlaw08.SizeTurns'. -/
def sizeTurnsUptoCard : Claim7 := { stood := { row := sizeTurnsUptoRow, standIns := [], harness := (true, "a5fc5bd53f2e2fdf0f32a35b18f9bcede903d198e460a50fde3acb5d7762422b"), looks := false }, kinds := [], alts := [], laidByText := true, laidKinds := [.data, .data], laidTests := true, laidLooks := .later }
def SizeTurnsUptoCardSaid : Prop := Claim7.holds Tryd.pinned (.plain (OpenSpec.upto sizeTurnsSpec)) sizeTurnsUptoCard
end Rows
end Go.Proofs.YtofkkdjbilklcaaDoor
