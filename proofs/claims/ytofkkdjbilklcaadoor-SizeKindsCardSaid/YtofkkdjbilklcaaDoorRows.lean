/-
  NARROWER THAN 'FOR EVERY INPUT', by the rows' own cells (each row's printed sentence says how): RebalOpens: laid · RebalMoves: laid · RebalFollows: laid · RebalNil: laid · SizeKinds: laid · SizeResizes: laid · SizeOf: laid · SizeLeast: laid · SizeTells: laid · RebalOpen: laid · RebalEven: laid · SizeTurns: laid.
  DERIVED. THE GIVEN ROWS OF THIS SEAT. 12 by the template 'for every input the law returns true; each argument reads behind the call as it read before'; 0 by the template 'total and deterministic' (their statements: YtofkkdjbilklcaaDoorTotals.lean).
  GIVEN WITH THE SEED: the statements are not yours to turn. If you find one false, say at which input.
  Laid BY PROGRAM, IN A SANDBOX (cutbox-rows.mjs): the forced cells as the released guide's own fill.sh prints them over the translation e5f5a1b50cd6a371… (all of the seat's roots in one cut). By AI agents, Wed Nov 11 2026. No macro, syntax, notation, axiom, sorry.
-/
import Derived.Test.YtofkkdjbilklcaaDoorChecked
import GoSem.Claim
import GoSem.ClaimJoined
import GoSem.ClaimMapViews
import Derived.JoinedTies
import Derived.KernelRfl
namespace Go.Proofs.YtofkkdjbilklcaaDoor
/- THE CELL 'sum', in the pinned program and in every row, IS THE sha256 OF THE DUMP (.gsa) THAT YtofkkdjbilklcaaDoorProg.lean LOADS. Nothing in Lean hashes anything: it is a label: what it is worth is what the hold of that sum in a sandbox is worth. -/
noncomputable def Tryd.pinned : Pinned := { name := "ytofkkdjbilklcaadoor", sum := "e5f5a1b50cd6a3710bf748632a8a176cb4ae3777e1287af8e4428afdb58e402a", checked := Tryd.checked }
namespace Rows
def none {H : Type} : Left H := { results := [], args := [] }

/- WHAT THE LISTED PACKAGE-LEVEL VARIABLES READ AS WHEN THE CALL BEGINS. Each datum BY PROGRAM (the guide's laid-datum.mjs) off the statement by which the dump's own 'gosem.cut.vars' lays the variable. In a bare row this is a premise. The card (YtofkkdjbilklcaaDoorCards.lean) ties it to the program's text. -/
def laid_math_bits_deBruijn64tab {H : Type} : DataW H := .agg [.lit (.int .u8 0), .lit (.int .u8 1), .lit (.int .u8 56), .lit (.int .u8 2), .lit (.int .u8 57), .lit (.int .u8 49), .lit (.int .u8 28), .lit (.int .u8 3), .lit (.int .u8 61), .lit (.int .u8 58), .lit (.int .u8 42), .lit (.int .u8 50), .lit (.int .u8 38), .lit (.int .u8 29), .lit (.int .u8 17), .lit (.int .u8 4), .lit (.int .u8 62), .lit (.int .u8 47), .lit (.int .u8 59), .lit (.int .u8 36), .lit (.int .u8 45), .lit (.int .u8 43), .lit (.int .u8 51), .lit (.int .u8 22), .lit (.int .u8 53), .lit (.int .u8 39), .lit (.int .u8 33), .lit (.int .u8 30), .lit (.int .u8 24), .lit (.int .u8 18), .lit (.int .u8 12), .lit (.int .u8 5), .lit (.int .u8 63), .lit (.int .u8 55), .lit (.int .u8 48), .lit (.int .u8 27), .lit (.int .u8 60), .lit (.int .u8 41), .lit (.int .u8 37), .lit (.int .u8 16), .lit (.int .u8 46), .lit (.int .u8 35), .lit (.int .u8 44), .lit (.int .u8 21), .lit (.int .u8 52), .lit (.int .u8 32), .lit (.int .u8 23), .lit (.int .u8 11), .lit (.int .u8 54), .lit (.int .u8 26), .lit (.int .u8 40), .lit (.int .u8 15), .lit (.int .u8 34), .lit (.int .u8 20), .lit (.int .u8 31), .lit (.int .u8 10), .lit (.int .u8 25), .lit (.int .u8 14), .lit (.int .u8 19), .lit (.int .u8 9), .lit (.int .u8 13), .lit (.int .u8 8), .lit (.int .u8 7), .lit (.int .u8 6)]
def laid_math_bits_deBruijn32tab {H : Type} : DataW H := .agg [.lit (.int .u8 0), .lit (.int .u8 1), .lit (.int .u8 28), .lit (.int .u8 2), .lit (.int .u8 29), .lit (.int .u8 14), .lit (.int .u8 24), .lit (.int .u8 3), .lit (.int .u8 30), .lit (.int .u8 22), .lit (.int .u8 20), .lit (.int .u8 15), .lit (.int .u8 25), .lit (.int .u8 17), .lit (.int .u8 4), .lit (.int .u8 8), .lit (.int .u8 31), .lit (.int .u8 27), .lit (.int .u8 13), .lit (.int .u8 23), .lit (.int .u8 21), .lit (.int .u8 19), .lit (.int .u8 16), .lit (.int .u8 7), .lit (.int .u8 26), .lit (.int .u8 12), .lit (.int .u8 18), .lit (.int .u8 6), .lit (.int .u8 11), .lit (.int .u8 5), .lit (.int .u8 10), .lit (.int .u8 9)]

/-- 'punnetlaw07.RebalOpens': WHATEVER THE INPUT: true; the input reads as it did. -/
def rebalOpensSpec : ChangeSpec := { name := "rebalOpens", fn := fun _ => fun
  | [d1, d2, d3] => { results := [.lit (.bool true)], args := [d1, d2, d3] }
  | _ => none }
def rebalOpensRow : OpenClaim := { program := "ytofkkdjbilklcaadoor", sum := "e5f5a1b50cd6a3710bf748632a8a176cb4ae3777e1287af8e4428afdb58e402a", func := "punnet/punnetlaw07.RebalOpens", spec := "rebalOpens", unfollowed := true, recurses := true, named := ["math/bits.deBruijn64tab"], apart := false, laid := [("math/bits.deBruijn64tab", laid_math_bits_deBruijn64tab)] }
def RebalOpensSaid : Prop := rebalOpensRow.holds Tryd.pinned (OpenSpec.ofChange rebalOpensSpec)

/-- ITS FALSE NEIGHBOUR: 'it returns false'. Refute it at one input. -/
def rebalOpensWrong : ChangeSpec := { name := "rebalOpens", fn := fun _ => fun
  | [d1, d2, d3] => { results := [.lit (.bool false)], args := [d1, d2, d3] }
  | _ => none }
def RebalOpensWrongFalsely : Prop := rebalOpensRow.holds Tryd.pinned (OpenSpec.ofChange rebalOpensWrong)

/-- 'punnetlaw07.RebalMoves': WHATEVER THE INPUT: true; the input reads as it did. -/
def rebalMovesSpec : ChangeSpec := { name := "rebalMoves", fn := fun _ => fun
  | [d1, d2, d3] => { results := [.lit (.bool true)], args := [d1, d2, d3] }
  | _ => none }
def rebalMovesRow : OpenClaim := { program := "ytofkkdjbilklcaadoor", sum := "e5f5a1b50cd6a3710bf748632a8a176cb4ae3777e1287af8e4428afdb58e402a", func := "punnet/punnetlaw07.RebalMoves", spec := "rebalMoves", unfollowed := true, recurses := true, named := ["math/bits.deBruijn64tab"], apart := false, laid := [("math/bits.deBruijn64tab", laid_math_bits_deBruijn64tab)] }
def RebalMovesSaid : Prop := rebalMovesRow.holds Tryd.pinned (OpenSpec.ofChange rebalMovesSpec)

/-- ITS FALSE NEIGHBOUR: 'it returns false'. Refute it at one input. -/
def rebalMovesWrong : ChangeSpec := { name := "rebalMoves", fn := fun _ => fun
  | [d1, d2, d3] => { results := [.lit (.bool false)], args := [d1, d2, d3] }
  | _ => none }
def RebalMovesWrongFalsely : Prop := rebalMovesRow.holds Tryd.pinned (OpenSpec.ofChange rebalMovesWrong)

/-- 'punnetlaw07.RebalFollows': WHATEVER THE INPUT: true; the input reads as it did. -/
def rebalFollowsSpec : ChangeSpec := { name := "rebalFollows", fn := fun _ => fun
  | [d1, d2, d3] => { results := [.lit (.bool true)], args := [d1, d2, d3] }
  | _ => none }
def rebalFollowsRow : OpenClaim := { program := "ytofkkdjbilklcaadoor", sum := "e5f5a1b50cd6a3710bf748632a8a176cb4ae3777e1287af8e4428afdb58e402a", func := "punnet/punnetlaw07.RebalFollows", spec := "rebalFollows", unfollowed := true, recurses := true, named := ["math/bits.deBruijn64tab"], apart := false, laid := [("math/bits.deBruijn64tab", laid_math_bits_deBruijn64tab)] }
def RebalFollowsSaid : Prop := rebalFollowsRow.holds Tryd.pinned (OpenSpec.ofChange rebalFollowsSpec)

/-- ITS FALSE NEIGHBOUR: 'it returns false'. Refute it at one input. -/
def rebalFollowsWrong : ChangeSpec := { name := "rebalFollows", fn := fun _ => fun
  | [d1, d2, d3] => { results := [.lit (.bool false)], args := [d1, d2, d3] }
  | _ => none }
def RebalFollowsWrongFalsely : Prop := rebalFollowsRow.holds Tryd.pinned (OpenSpec.ofChange rebalFollowsWrong)

/-- 'punnetlaw07.RebalNil': WHATEVER THE INPUT: true; the input reads as it did. -/
def rebalNilSpec : ChangeSpec := { name := "rebalNil", fn := fun _ => fun
  | [d1, d2, d3] => { results := [.lit (.bool true)], args := [d1, d2, d3] }
  | _ => none }
def rebalNilRow : OpenClaim := { program := "ytofkkdjbilklcaadoor", sum := "e5f5a1b50cd6a3710bf748632a8a176cb4ae3777e1287af8e4428afdb58e402a", func := "punnet/punnetlaw07.RebalNil", spec := "rebalNil", unfollowed := true, recurses := true, named := ["math/bits.deBruijn64tab"], apart := false, laid := [("math/bits.deBruijn64tab", laid_math_bits_deBruijn64tab)] }
def RebalNilSaid : Prop := rebalNilRow.holds Tryd.pinned (OpenSpec.ofChange rebalNilSpec)

/-- ITS FALSE NEIGHBOUR: 'it returns false'. Refute it at one input. -/
def rebalNilWrong : ChangeSpec := { name := "rebalNil", fn := fun _ => fun
  | [d1, d2, d3] => { results := [.lit (.bool false)], args := [d1, d2, d3] }
  | _ => none }
def RebalNilWrongFalsely : Prop := rebalNilRow.holds Tryd.pinned (OpenSpec.ofChange rebalNilWrong)

/-- 'punnetlaw08.SizeKinds': WHATEVER THE INPUT: true; the input reads as it did. -/
def sizeKindsSpec : ChangeSpec := { name := "sizeKinds", fn := fun _ => fun
  | [d1, d2] => { results := [.lit (.bool true)], args := [d1, d2] }
  | _ => none }
def sizeKindsRow : OpenClaim := { program := "ytofkkdjbilklcaadoor", sum := "e5f5a1b50cd6a3710bf748632a8a176cb4ae3777e1287af8e4428afdb58e402a", func := "punnet/punnetlaw08.SizeKinds", spec := "sizeKinds", unfollowed := true, recurses := true, named := ["math/bits.deBruijn64tab", "math/bits.deBruijn32tab"], apart := false, laid := [("math/bits.deBruijn32tab", laid_math_bits_deBruijn32tab), ("math/bits.deBruijn64tab", laid_math_bits_deBruijn64tab)] }
def SizeKindsSaid : Prop := sizeKindsRow.holds Tryd.pinned (OpenSpec.ofChange sizeKindsSpec)

/-- ITS FALSE NEIGHBOUR: 'it returns false'. Refute it at one input. -/
def sizeKindsWrong : ChangeSpec := { name := "sizeKinds", fn := fun _ => fun
  | [d1, d2] => { results := [.lit (.bool false)], args := [d1, d2] }
  | _ => none }
def SizeKindsWrongFalsely : Prop := sizeKindsRow.holds Tryd.pinned (OpenSpec.ofChange sizeKindsWrong)

/-- 'punnetlaw08.SizeResizes': WHATEVER THE INPUT: true; the input reads as it did. -/
def sizeResizesSpec : ChangeSpec := { name := "sizeResizes", fn := fun _ => fun
  | [d1, d2] => { results := [.lit (.bool true)], args := [d1, d2] }
  | _ => none }
def sizeResizesRow : OpenClaim := { program := "ytofkkdjbilklcaadoor", sum := "e5f5a1b50cd6a3710bf748632a8a176cb4ae3777e1287af8e4428afdb58e402a", func := "punnet/punnetlaw08.SizeResizes", spec := "sizeResizes", unfollowed := true, recurses := true, named := ["math/bits.deBruijn64tab", "math/bits.deBruijn32tab"], apart := false, laid := [("math/bits.deBruijn32tab", laid_math_bits_deBruijn32tab), ("math/bits.deBruijn64tab", laid_math_bits_deBruijn64tab)] }
def SizeResizesSaid : Prop := sizeResizesRow.holds Tryd.pinned (OpenSpec.ofChange sizeResizesSpec)

/-- ITS FALSE NEIGHBOUR: 'it returns false'. Refute it at one input. -/
def sizeResizesWrong : ChangeSpec := { name := "sizeResizes", fn := fun _ => fun
  | [d1, d2] => { results := [.lit (.bool false)], args := [d1, d2] }
  | _ => none }
def SizeResizesWrongFalsely : Prop := sizeResizesRow.holds Tryd.pinned (OpenSpec.ofChange sizeResizesWrong)

/-- 'punnetlaw08.SizeOf': WHATEVER THE INPUT: true; the input reads as it did. -/
def sizeOfSpec : ChangeSpec := { name := "sizeOf", fn := fun _ => fun
  | [d1, d2] => { results := [.lit (.bool true)], args := [d1, d2] }
  | _ => none }
def sizeOfRow : OpenClaim := { program := "ytofkkdjbilklcaadoor", sum := "e5f5a1b50cd6a3710bf748632a8a176cb4ae3777e1287af8e4428afdb58e402a", func := "punnet/punnetlaw08.SizeOf", spec := "sizeOf", unfollowed := true, recurses := true, named := ["math/bits.deBruijn64tab", "math/bits.deBruijn32tab"], apart := false, laid := [("math/bits.deBruijn32tab", laid_math_bits_deBruijn32tab), ("math/bits.deBruijn64tab", laid_math_bits_deBruijn64tab)] }
def SizeOfSaid : Prop := sizeOfRow.holds Tryd.pinned (OpenSpec.ofChange sizeOfSpec)

/-- ITS FALSE NEIGHBOUR: 'it returns false'. Refute it at one input. -/
def sizeOfWrong : ChangeSpec := { name := "sizeOf", fn := fun _ => fun
  | [d1, d2] => { results := [.lit (.bool false)], args := [d1, d2] }
  | _ => none }
def SizeOfWrongFalsely : Prop := sizeOfRow.holds Tryd.pinned (OpenSpec.ofChange sizeOfWrong)

/-- 'punnetlaw08.SizeLeast': WHATEVER THE INPUT: true; the input reads as it did. -/
def sizeLeastSpec : ChangeSpec := { name := "sizeLeast", fn := fun _ => fun
  | [d] => { results := [.lit (.bool true)], args := [d] }
  | _ => none }
def sizeLeastRow : OpenClaim := { program := "ytofkkdjbilklcaadoor", sum := "e5f5a1b50cd6a3710bf748632a8a176cb4ae3777e1287af8e4428afdb58e402a", func := "punnet/punnetlaw08.SizeLeast", spec := "sizeLeast", unfollowed := true, recurses := true, named := ["math/bits.deBruijn64tab", "math/bits.deBruijn32tab"], apart := false, laid := [("math/bits.deBruijn32tab", laid_math_bits_deBruijn32tab), ("math/bits.deBruijn64tab", laid_math_bits_deBruijn64tab)] }
def SizeLeastSaid : Prop := sizeLeastRow.holds Tryd.pinned (OpenSpec.ofChange sizeLeastSpec)

/-- ITS FALSE NEIGHBOUR: 'it returns false'. Refute it at one input. -/
def sizeLeastWrong : ChangeSpec := { name := "sizeLeast", fn := fun _ => fun
  | [d] => { results := [.lit (.bool false)], args := [d] }
  | _ => none }
def SizeLeastWrongFalsely : Prop := sizeLeastRow.holds Tryd.pinned (OpenSpec.ofChange sizeLeastWrong)

/-- 'punnetlaw08.SizeTells': WHATEVER THE INPUT: true; the input reads as it did. -/
def sizeTellsSpec : ChangeSpec := { name := "sizeTells", fn := fun _ => fun
  | [d1, d2] => { results := [.lit (.bool true)], args := [d1, d2] }
  | _ => none }
def sizeTellsRow : OpenClaim := { program := "ytofkkdjbilklcaadoor", sum := "e5f5a1b50cd6a3710bf748632a8a176cb4ae3777e1287af8e4428afdb58e402a", func := "punnet/punnetlaw08.SizeTells", spec := "sizeTells", unfollowed := true, recurses := true, named := ["math/bits.deBruijn64tab", "math/bits.deBruijn32tab"], apart := false, laid := [("math/bits.deBruijn32tab", laid_math_bits_deBruijn32tab), ("math/bits.deBruijn64tab", laid_math_bits_deBruijn64tab)] }
def SizeTellsSaid : Prop := sizeTellsRow.holds Tryd.pinned (OpenSpec.ofChange sizeTellsSpec)

/-- ITS FALSE NEIGHBOUR: 'it returns false'. Refute it at one input. -/
def sizeTellsWrong : ChangeSpec := { name := "sizeTells", fn := fun _ => fun
  | [d1, d2] => { results := [.lit (.bool false)], args := [d1, d2] }
  | _ => none }
def SizeTellsWrongFalsely : Prop := sizeTellsRow.holds Tryd.pinned (OpenSpec.ofChange sizeTellsWrong)

/-- 'punnetlaw07.RebalOpen': WHATEVER THE INPUT: true; the input reads as it did. -/
def rebalOpenSpec : ChangeSpec := { name := "rebalOpen", fn := fun _ => fun
  | [d1, d2, d3] => { results := [.lit (.bool true)], args := [d1, d2, d3] }
  | _ => none }
def rebalOpenRow : OpenClaim := { program := "ytofkkdjbilklcaadoor", sum := "e5f5a1b50cd6a3710bf748632a8a176cb4ae3777e1287af8e4428afdb58e402a", func := "punnet/punnetlaw07.RebalOpen", spec := "rebalOpen", unfollowed := true, recurses := true, named := ["math/bits.deBruijn64tab"], apart := false, laid := [("math/bits.deBruijn64tab", laid_math_bits_deBruijn64tab)] }
def RebalOpenSaid : Prop := rebalOpenRow.holds Tryd.pinned (OpenSpec.ofChange rebalOpenSpec)

/-- ITS FALSE NEIGHBOUR: 'it returns false'. Refute it at one input. -/
def rebalOpenWrong : ChangeSpec := { name := "rebalOpen", fn := fun _ => fun
  | [d1, d2, d3] => { results := [.lit (.bool false)], args := [d1, d2, d3] }
  | _ => none }
def RebalOpenWrongFalsely : Prop := rebalOpenRow.holds Tryd.pinned (OpenSpec.ofChange rebalOpenWrong)

/-- 'punnetlaw07.RebalEven': WHATEVER THE INPUT: true; the input reads as it did. -/
def rebalEvenSpec : ChangeSpec := { name := "rebalEven", fn := fun _ => fun
  | [d1, d2, d3] => { results := [.lit (.bool true)], args := [d1, d2, d3] }
  | _ => none }
def rebalEvenRow : OpenClaim := { program := "ytofkkdjbilklcaadoor", sum := "e5f5a1b50cd6a3710bf748632a8a176cb4ae3777e1287af8e4428afdb58e402a", func := "punnet/punnetlaw07.RebalEven", spec := "rebalEven", unfollowed := true, recurses := true, named := ["math/bits.deBruijn64tab"], apart := false, laid := [("math/bits.deBruijn64tab", laid_math_bits_deBruijn64tab)] }
def RebalEvenSaid : Prop := rebalEvenRow.holds Tryd.pinned (OpenSpec.ofChange rebalEvenSpec)

/-- ITS FALSE NEIGHBOUR: 'it returns false'. Refute it at one input. -/
def rebalEvenWrong : ChangeSpec := { name := "rebalEven", fn := fun _ => fun
  | [d1, d2, d3] => { results := [.lit (.bool false)], args := [d1, d2, d3] }
  | _ => none }
def RebalEvenWrongFalsely : Prop := rebalEvenRow.holds Tryd.pinned (OpenSpec.ofChange rebalEvenWrong)

/-- 'punnetlaw08.SizeTurns': WHATEVER THE INPUT: true; the input reads as it did. -/
def sizeTurnsSpec : ChangeSpec := { name := "sizeTurns", fn := fun _ => fun
  | [d1, d2] => { results := [.lit (.bool true)], args := [d1, d2] }
  | _ => none }
def sizeTurnsRow : OpenClaim := { program := "ytofkkdjbilklcaadoor", sum := "e5f5a1b50cd6a3710bf748632a8a176cb4ae3777e1287af8e4428afdb58e402a", func := "punnet/punnetlaw08.SizeTurns", spec := "sizeTurns", unfollowed := true, recurses := true, named := ["math/bits.deBruijn64tab", "math/bits.deBruijn32tab"], apart := false, laid := [("math/bits.deBruijn32tab", laid_math_bits_deBruijn32tab), ("math/bits.deBruijn64tab", laid_math_bits_deBruijn64tab)] }
def SizeTurnsSaid : Prop := sizeTurnsRow.holds Tryd.pinned (OpenSpec.ofChange sizeTurnsSpec)

/-- ITS FALSE NEIGHBOUR: 'it returns false'. Refute it at one input. -/
def sizeTurnsWrong : ChangeSpec := { name := "sizeTurns", fn := fun _ => fun
  | [d1, d2] => { results := [.lit (.bool false)], args := [d1, d2] }
  | _ => none }
def SizeTurnsWrongFalsely : Prop := sizeTurnsRow.holds Tryd.pinned (OpenSpec.ofChange sizeTurnsWrong)

/- THE SECOND FORM. 'bulk': how many values and letters a reading holds, each counted each time it is reached (what is shared counts as often as it is met; a slice's spare places count too). A statement '..UptoSaid' is the law's where the arguments, and the package variables that the reading takes, are together of bulk at most 1048576: NARROWER than '..Said'. Prove '..Said' where nothing that the law and all that it calls make is longer than what came in: it says more and counts as full. Else prove '..UptoSaid'. A law counts once. -/
mutual
def uptoBulk {H : Type} : DataW H → Nat
  | .lit (.string bytes) => bytes.length + 1
  | .lit _ => 1
  | .nil => 1
  | .ptr d => uptoBulk d + 1
  | .slice elems spare => uptoBulkAll elems + uptoBulkAll spare + 1
  | .agg parts => uptoBulkAll parts + 1
  | .iface _ d => uptoBulk d + 1
  | .map entries => uptoBulkEntries entries + 1
  | .held _ => 1
def uptoBulkAll {H : Type} : List (DataW H) → Nat
  | [] => 0
  | d :: r => uptoBulk d + uptoBulkAll r
def uptoBulkEntries {H : Type} : List (Lit × DataW H) → Nat
  | [] => 0
  | x :: r => uptoBulkEntry x + uptoBulkEntries r
def uptoBulkEntry {H : Type} : Lit × DataW H → Nat
  | (.string bytes, d) => bytes.length + uptoBulk d + 1
  | (_, d) => uptoBulk d + 1
 end
def uptoSmall : (H : Type) → List (DataW H) → Bool := fun _ ds => decide (uptoBulkAll ds ≤ 1048576)
def OpenSpec.upto (s : _root_.Go.ChangeSpec) : _root_.Go.OpenSpec := { _root_.Go.OpenSpec.ofChange s with cond := some uptoSmall }

/-- 'punnetlaw07.RebalOpens', WHERE WHAT IT READS IS OF BULK AT MOST 1048576: true; the input reads as it did. -/
def rebalOpensUptoRow : OpenClaim := { program := "ytofkkdjbilklcaadoor", sum := "e5f5a1b50cd6a3710bf748632a8a176cb4ae3777e1287af8e4428afdb58e402a", func := "punnet/punnetlaw07.RebalOpens", spec := "rebalOpens", unfollowed := true, recurses := true, named := ["math/bits.deBruijn64tab"], apart := false, laid := [("math/bits.deBruijn64tab", laid_math_bits_deBruijn64tab)], narrowed := true }
def RebalOpensUptoSaid : Prop := rebalOpensUptoRow.holds Tryd.pinned (OpenSpec.upto rebalOpensSpec)

/-- 'punnetlaw07.RebalMoves', WHERE WHAT IT READS IS OF BULK AT MOST 1048576: true; the input reads as it did. -/
def rebalMovesUptoRow : OpenClaim := { program := "ytofkkdjbilklcaadoor", sum := "e5f5a1b50cd6a3710bf748632a8a176cb4ae3777e1287af8e4428afdb58e402a", func := "punnet/punnetlaw07.RebalMoves", spec := "rebalMoves", unfollowed := true, recurses := true, named := ["math/bits.deBruijn64tab"], apart := false, laid := [("math/bits.deBruijn64tab", laid_math_bits_deBruijn64tab)], narrowed := true }
def RebalMovesUptoSaid : Prop := rebalMovesUptoRow.holds Tryd.pinned (OpenSpec.upto rebalMovesSpec)

/-- 'punnetlaw07.RebalFollows', WHERE WHAT IT READS IS OF BULK AT MOST 1048576: true; the input reads as it did. -/
def rebalFollowsUptoRow : OpenClaim := { program := "ytofkkdjbilklcaadoor", sum := "e5f5a1b50cd6a3710bf748632a8a176cb4ae3777e1287af8e4428afdb58e402a", func := "punnet/punnetlaw07.RebalFollows", spec := "rebalFollows", unfollowed := true, recurses := true, named := ["math/bits.deBruijn64tab"], apart := false, laid := [("math/bits.deBruijn64tab", laid_math_bits_deBruijn64tab)], narrowed := true }
def RebalFollowsUptoSaid : Prop := rebalFollowsUptoRow.holds Tryd.pinned (OpenSpec.upto rebalFollowsSpec)

/-- 'punnetlaw07.RebalNil', WHERE WHAT IT READS IS OF BULK AT MOST 1048576: true; the input reads as it did. -/
def rebalNilUptoRow : OpenClaim := { program := "ytofkkdjbilklcaadoor", sum := "e5f5a1b50cd6a3710bf748632a8a176cb4ae3777e1287af8e4428afdb58e402a", func := "punnet/punnetlaw07.RebalNil", spec := "rebalNil", unfollowed := true, recurses := true, named := ["math/bits.deBruijn64tab"], apart := false, laid := [("math/bits.deBruijn64tab", laid_math_bits_deBruijn64tab)], narrowed := true }
def RebalNilUptoSaid : Prop := rebalNilUptoRow.holds Tryd.pinned (OpenSpec.upto rebalNilSpec)

/-- 'punnetlaw08.SizeKinds', WHERE WHAT IT READS IS OF BULK AT MOST 1048576: true; the input reads as it did. -/
def sizeKindsUptoRow : OpenClaim := { program := "ytofkkdjbilklcaadoor", sum := "e5f5a1b50cd6a3710bf748632a8a176cb4ae3777e1287af8e4428afdb58e402a", func := "punnet/punnetlaw08.SizeKinds", spec := "sizeKinds", unfollowed := true, recurses := true, named := ["math/bits.deBruijn64tab", "math/bits.deBruijn32tab"], apart := false, laid := [("math/bits.deBruijn32tab", laid_math_bits_deBruijn32tab), ("math/bits.deBruijn64tab", laid_math_bits_deBruijn64tab)], narrowed := true }
def SizeKindsUptoSaid : Prop := sizeKindsUptoRow.holds Tryd.pinned (OpenSpec.upto sizeKindsSpec)

/-- 'punnetlaw08.SizeResizes', WHERE WHAT IT READS IS OF BULK AT MOST 1048576: true; the input reads as it did. -/
def sizeResizesUptoRow : OpenClaim := { program := "ytofkkdjbilklcaadoor", sum := "e5f5a1b50cd6a3710bf748632a8a176cb4ae3777e1287af8e4428afdb58e402a", func := "punnet/punnetlaw08.SizeResizes", spec := "sizeResizes", unfollowed := true, recurses := true, named := ["math/bits.deBruijn64tab", "math/bits.deBruijn32tab"], apart := false, laid := [("math/bits.deBruijn32tab", laid_math_bits_deBruijn32tab), ("math/bits.deBruijn64tab", laid_math_bits_deBruijn64tab)], narrowed := true }
def SizeResizesUptoSaid : Prop := sizeResizesUptoRow.holds Tryd.pinned (OpenSpec.upto sizeResizesSpec)

/-- 'punnetlaw08.SizeOf', WHERE WHAT IT READS IS OF BULK AT MOST 1048576: true; the input reads as it did. -/
def sizeOfUptoRow : OpenClaim := { program := "ytofkkdjbilklcaadoor", sum := "e5f5a1b50cd6a3710bf748632a8a176cb4ae3777e1287af8e4428afdb58e402a", func := "punnet/punnetlaw08.SizeOf", spec := "sizeOf", unfollowed := true, recurses := true, named := ["math/bits.deBruijn64tab", "math/bits.deBruijn32tab"], apart := false, laid := [("math/bits.deBruijn32tab", laid_math_bits_deBruijn32tab), ("math/bits.deBruijn64tab", laid_math_bits_deBruijn64tab)], narrowed := true }
def SizeOfUptoSaid : Prop := sizeOfUptoRow.holds Tryd.pinned (OpenSpec.upto sizeOfSpec)

/-- 'punnetlaw08.SizeLeast', WHERE WHAT IT READS IS OF BULK AT MOST 1048576: true; the input reads as it did. -/
def sizeLeastUptoRow : OpenClaim := { program := "ytofkkdjbilklcaadoor", sum := "e5f5a1b50cd6a3710bf748632a8a176cb4ae3777e1287af8e4428afdb58e402a", func := "punnet/punnetlaw08.SizeLeast", spec := "sizeLeast", unfollowed := true, recurses := true, named := ["math/bits.deBruijn64tab", "math/bits.deBruijn32tab"], apart := false, laid := [("math/bits.deBruijn32tab", laid_math_bits_deBruijn32tab), ("math/bits.deBruijn64tab", laid_math_bits_deBruijn64tab)], narrowed := true }
def SizeLeastUptoSaid : Prop := sizeLeastUptoRow.holds Tryd.pinned (OpenSpec.upto sizeLeastSpec)

/-- 'punnetlaw08.SizeTells', WHERE WHAT IT READS IS OF BULK AT MOST 1048576: true; the input reads as it did. -/
def sizeTellsUptoRow : OpenClaim := { program := "ytofkkdjbilklcaadoor", sum := "e5f5a1b50cd6a3710bf748632a8a176cb4ae3777e1287af8e4428afdb58e402a", func := "punnet/punnetlaw08.SizeTells", spec := "sizeTells", unfollowed := true, recurses := true, named := ["math/bits.deBruijn64tab", "math/bits.deBruijn32tab"], apart := false, laid := [("math/bits.deBruijn32tab", laid_math_bits_deBruijn32tab), ("math/bits.deBruijn64tab", laid_math_bits_deBruijn64tab)], narrowed := true }
def SizeTellsUptoSaid : Prop := sizeTellsUptoRow.holds Tryd.pinned (OpenSpec.upto sizeTellsSpec)

/-- 'punnetlaw07.RebalOpen', WHERE WHAT IT READS IS OF BULK AT MOST 1048576: true; the input reads as it did. -/
def rebalOpenUptoRow : OpenClaim := { program := "ytofkkdjbilklcaadoor", sum := "e5f5a1b50cd6a3710bf748632a8a176cb4ae3777e1287af8e4428afdb58e402a", func := "punnet/punnetlaw07.RebalOpen", spec := "rebalOpen", unfollowed := true, recurses := true, named := ["math/bits.deBruijn64tab"], apart := false, laid := [("math/bits.deBruijn64tab", laid_math_bits_deBruijn64tab)], narrowed := true }
def RebalOpenUptoSaid : Prop := rebalOpenUptoRow.holds Tryd.pinned (OpenSpec.upto rebalOpenSpec)

/-- 'punnetlaw07.RebalEven', WHERE WHAT IT READS IS OF BULK AT MOST 1048576: true; the input reads as it did. -/
def rebalEvenUptoRow : OpenClaim := { program := "ytofkkdjbilklcaadoor", sum := "e5f5a1b50cd6a3710bf748632a8a176cb4ae3777e1287af8e4428afdb58e402a", func := "punnet/punnetlaw07.RebalEven", spec := "rebalEven", unfollowed := true, recurses := true, named := ["math/bits.deBruijn64tab"], apart := false, laid := [("math/bits.deBruijn64tab", laid_math_bits_deBruijn64tab)], narrowed := true }
def RebalEvenUptoSaid : Prop := rebalEvenUptoRow.holds Tryd.pinned (OpenSpec.upto rebalEvenSpec)

/-- 'punnetlaw08.SizeTurns', WHERE WHAT IT READS IS OF BULK AT MOST 1048576: true; the input reads as it did. -/
def sizeTurnsUptoRow : OpenClaim := { program := "ytofkkdjbilklcaadoor", sum := "e5f5a1b50cd6a3710bf748632a8a176cb4ae3777e1287af8e4428afdb58e402a", func := "punnet/punnetlaw08.SizeTurns", spec := "sizeTurns", unfollowed := true, recurses := true, named := ["math/bits.deBruijn64tab", "math/bits.deBruijn32tab"], apart := false, laid := [("math/bits.deBruijn32tab", laid_math_bits_deBruijn32tab), ("math/bits.deBruijn64tab", laid_math_bits_deBruijn64tab)], narrowed := true }
def SizeTurnsUptoSaid : Prop := sizeTurnsUptoRow.holds Tryd.pinned (OpenSpec.upto sizeTurnsSpec)

end Rows
end Go.Proofs.YtofkkdjbilklcaaDoor
