/-
  NARROWER THAN 'FOR EVERY INPUT', by the rows' own cells (each row's printed sentence says how): GapsKinds: laid · GapsGoes: laid · GapsPlays: laid · FindSearches: laid · GapsMoves: laid · FindRight: laid · FindKeeps: laid · GapsNear: laid · GapsOwn: laid · FindRanks: laid.
  DERIVED. THE GIVEN ROWS OF THIS SEAT. 10 by the template 'for every input the law returns true; each argument reads behind the call as it read before'; 0 by the template 'total and deterministic' (their statements: YtbjkncgpoengaaaDoorTotals.lean).
  GIVEN WITH THE SEED: the statements are not yours to turn. If you find one false, say at which input.
  Laid BY PROGRAM, IN A SANDBOX (cutbox-rows.mjs): the forced cells as the released guide's own fill.sh prints them over the translation 07a1f986789a4b69… (all of the seat's roots in one cut). By AI agents, Wed Nov 11 2026. No macro, syntax, notation, axiom, sorry.
-/
import Derived.Test.YtbjkncgpoengaaaDoorChecked
import GoSem.Claim
import GoSem.ClaimJoined
import GoSem.ClaimMapViews
import Derived.JoinedTies
import Derived.KernelRfl
namespace Go.Proofs.YtbjkncgpoengaaaDoor
/- THE CELL 'sum', in the pinned program and in every row, IS THE sha256 OF THE DUMP (.gsa) THAT YtbjkncgpoengaaaDoorProg.lean LOADS. Nothing in Lean hashes anything: it is a label: what it is worth is what the hold of that sum in a sandbox is worth. -/
noncomputable def Tryd.pinned : Pinned := { name := "ytbjkncgpoengaaadoor", sum := "07a1f986789a4b6962c3a92a222c6e30c89b8e2aa4b8e0769cc68cf390af3f07", checked := Tryd.checked }
namespace Rows
def none {H : Type} : Left H := { results := [], args := [] }

/- WHAT THE LISTED PACKAGE-LEVEL VARIABLES READ AS WHEN THE CALL BEGINS. Each datum BY PROGRAM (the guide's laid-datum.mjs) off the statement by which the dump's own 'gosem.cut.vars' lays the variable. In a bare row this is a premise. The card (YtbjkncgpoengaaaDoorCards.lean) ties it to the program's text. -/
def laid_math_bits_deBruijn64tab {H : Type} : DataW H := .agg [.lit (.int .u8 0), .lit (.int .u8 1), .lit (.int .u8 56), .lit (.int .u8 2), .lit (.int .u8 57), .lit (.int .u8 49), .lit (.int .u8 28), .lit (.int .u8 3), .lit (.int .u8 61), .lit (.int .u8 58), .lit (.int .u8 42), .lit (.int .u8 50), .lit (.int .u8 38), .lit (.int .u8 29), .lit (.int .u8 17), .lit (.int .u8 4), .lit (.int .u8 62), .lit (.int .u8 47), .lit (.int .u8 59), .lit (.int .u8 36), .lit (.int .u8 45), .lit (.int .u8 43), .lit (.int .u8 51), .lit (.int .u8 22), .lit (.int .u8 53), .lit (.int .u8 39), .lit (.int .u8 33), .lit (.int .u8 30), .lit (.int .u8 24), .lit (.int .u8 18), .lit (.int .u8 12), .lit (.int .u8 5), .lit (.int .u8 63), .lit (.int .u8 55), .lit (.int .u8 48), .lit (.int .u8 27), .lit (.int .u8 60), .lit (.int .u8 41), .lit (.int .u8 37), .lit (.int .u8 16), .lit (.int .u8 46), .lit (.int .u8 35), .lit (.int .u8 44), .lit (.int .u8 21), .lit (.int .u8 52), .lit (.int .u8 32), .lit (.int .u8 23), .lit (.int .u8 11), .lit (.int .u8 54), .lit (.int .u8 26), .lit (.int .u8 40), .lit (.int .u8 15), .lit (.int .u8 34), .lit (.int .u8 20), .lit (.int .u8 31), .lit (.int .u8 10), .lit (.int .u8 25), .lit (.int .u8 14), .lit (.int .u8 19), .lit (.int .u8 9), .lit (.int .u8 13), .lit (.int .u8 8), .lit (.int .u8 7), .lit (.int .u8 6)]

/-- 'punnetlaw02.GapsKinds': WHATEVER THE INPUT: true; the input reads as it did. -/
def gapsKindsSpec : ChangeSpec := { name := "gapsKinds", fn := fun _ => fun
  | [d1, d2] => { results := [.lit (.bool true)], args := [d1, d2] }
  | _ => none }
def gapsKindsRow : OpenClaim := { program := "ytbjkncgpoengaaadoor", sum := "07a1f986789a4b6962c3a92a222c6e30c89b8e2aa4b8e0769cc68cf390af3f07", func := "punnet/punnetlaw02.GapsKinds", spec := "gapsKinds", unfollowed := true, recurses := true, named := ["math/bits.deBruijn64tab"], apart := false, laid := [("math/bits.deBruijn64tab", laid_math_bits_deBruijn64tab)] }
def GapsKindsSaid : Prop := gapsKindsRow.holds Tryd.pinned (OpenSpec.ofChange gapsKindsSpec)

/-- ITS FALSE NEIGHBOUR: 'it returns false'. Refute it at one input. -/
def gapsKindsWrong : ChangeSpec := { name := "gapsKinds", fn := fun _ => fun
  | [d1, d2] => { results := [.lit (.bool false)], args := [d1, d2] }
  | _ => none }
def GapsKindsWrongFalsely : Prop := gapsKindsRow.holds Tryd.pinned (OpenSpec.ofChange gapsKindsWrong)

/-- 'punnetlaw02.GapsGoes': WHATEVER THE INPUT: true; the input reads as it did. -/
def gapsGoesSpec : ChangeSpec := { name := "gapsGoes", fn := fun _ => fun
  | [d1, d2, d3] => { results := [.lit (.bool true)], args := [d1, d2, d3] }
  | _ => none }
def gapsGoesRow : OpenClaim := { program := "ytbjkncgpoengaaadoor", sum := "07a1f986789a4b6962c3a92a222c6e30c89b8e2aa4b8e0769cc68cf390af3f07", func := "punnet/punnetlaw02.GapsGoes", spec := "gapsGoes", unfollowed := true, recurses := true, named := ["math/bits.deBruijn64tab"], apart := false, laid := [("math/bits.deBruijn64tab", laid_math_bits_deBruijn64tab)] }
def GapsGoesSaid : Prop := gapsGoesRow.holds Tryd.pinned (OpenSpec.ofChange gapsGoesSpec)

/-- ITS FALSE NEIGHBOUR: 'it returns false'. Refute it at one input. -/
def gapsGoesWrong : ChangeSpec := { name := "gapsGoes", fn := fun _ => fun
  | [d1, d2, d3] => { results := [.lit (.bool false)], args := [d1, d2, d3] }
  | _ => none }
def GapsGoesWrongFalsely : Prop := gapsGoesRow.holds Tryd.pinned (OpenSpec.ofChange gapsGoesWrong)

/-- 'punnetlaw02.GapsPlays': WHATEVER THE INPUT: true; the input reads as it did. -/
def gapsPlaysSpec : ChangeSpec := { name := "gapsPlays", fn := fun _ => fun
  | [d1, d2, d3] => { results := [.lit (.bool true)], args := [d1, d2, d3] }
  | _ => none }
def gapsPlaysRow : OpenClaim := { program := "ytbjkncgpoengaaadoor", sum := "07a1f986789a4b6962c3a92a222c6e30c89b8e2aa4b8e0769cc68cf390af3f07", func := "punnet/punnetlaw02.GapsPlays", spec := "gapsPlays", unfollowed := true, recurses := true, named := ["math/bits.deBruijn64tab"], apart := false, laid := [("math/bits.deBruijn64tab", laid_math_bits_deBruijn64tab)] }
def GapsPlaysSaid : Prop := gapsPlaysRow.holds Tryd.pinned (OpenSpec.ofChange gapsPlaysSpec)

/-- ITS FALSE NEIGHBOUR: 'it returns false'. Refute it at one input. -/
def gapsPlaysWrong : ChangeSpec := { name := "gapsPlays", fn := fun _ => fun
  | [d1, d2, d3] => { results := [.lit (.bool false)], args := [d1, d2, d3] }
  | _ => none }
def GapsPlaysWrongFalsely : Prop := gapsPlaysRow.holds Tryd.pinned (OpenSpec.ofChange gapsPlaysWrong)

/-- 'punnetlaw10.FindSearches': WHATEVER THE INPUT: true; the input reads as it did. -/
def findSearchesSpec : ChangeSpec := { name := "findSearches", fn := fun _ => fun
  | [d1, d2] => { results := [.lit (.bool true)], args := [d1, d2] }
  | _ => none }
def findSearchesRow : OpenClaim := { program := "ytbjkncgpoengaaadoor", sum := "07a1f986789a4b6962c3a92a222c6e30c89b8e2aa4b8e0769cc68cf390af3f07", func := "punnet/punnetlaw10.FindSearches", spec := "findSearches", unfollowed := true, recurses := true, named := ["math/bits.deBruijn64tab"], apart := false, laid := [("math/bits.deBruijn64tab", laid_math_bits_deBruijn64tab)] }
def FindSearchesSaid : Prop := findSearchesRow.holds Tryd.pinned (OpenSpec.ofChange findSearchesSpec)

/-- ITS FALSE NEIGHBOUR: 'it returns false'. Refute it at one input. -/
def findSearchesWrong : ChangeSpec := { name := "findSearches", fn := fun _ => fun
  | [d1, d2] => { results := [.lit (.bool false)], args := [d1, d2] }
  | _ => none }
def FindSearchesWrongFalsely : Prop := findSearchesRow.holds Tryd.pinned (OpenSpec.ofChange findSearchesWrong)

/-- 'punnetlaw02.GapsMoves': WHATEVER THE INPUT: true; the input reads as it did. -/
def gapsMovesSpec : ChangeSpec := { name := "gapsMoves", fn := fun _ => fun
  | [d1, d2, d3] => { results := [.lit (.bool true)], args := [d1, d2, d3] }
  | _ => none }
def gapsMovesRow : OpenClaim := { program := "ytbjkncgpoengaaadoor", sum := "07a1f986789a4b6962c3a92a222c6e30c89b8e2aa4b8e0769cc68cf390af3f07", func := "punnet/punnetlaw02.GapsMoves", spec := "gapsMoves", unfollowed := true, recurses := true, named := ["math/bits.deBruijn64tab"], apart := false, laid := [("math/bits.deBruijn64tab", laid_math_bits_deBruijn64tab)] }
def GapsMovesSaid : Prop := gapsMovesRow.holds Tryd.pinned (OpenSpec.ofChange gapsMovesSpec)

/-- ITS FALSE NEIGHBOUR: 'it returns false'. Refute it at one input. -/
def gapsMovesWrong : ChangeSpec := { name := "gapsMoves", fn := fun _ => fun
  | [d1, d2, d3] => { results := [.lit (.bool false)], args := [d1, d2, d3] }
  | _ => none }
def GapsMovesWrongFalsely : Prop := gapsMovesRow.holds Tryd.pinned (OpenSpec.ofChange gapsMovesWrong)

/-- 'punnetlaw10.FindRight': WHATEVER THE INPUT: true; the input reads as it did. -/
def findRightSpec : ChangeSpec := { name := "findRight", fn := fun _ => fun
  | [d1, d2] => { results := [.lit (.bool true)], args := [d1, d2] }
  | _ => none }
def findRightRow : OpenClaim := { program := "ytbjkncgpoengaaadoor", sum := "07a1f986789a4b6962c3a92a222c6e30c89b8e2aa4b8e0769cc68cf390af3f07", func := "punnet/punnetlaw10.FindRight", spec := "findRight", unfollowed := true, recurses := true, named := ["math/bits.deBruijn64tab"], apart := false, laid := [("math/bits.deBruijn64tab", laid_math_bits_deBruijn64tab)] }
def FindRightSaid : Prop := findRightRow.holds Tryd.pinned (OpenSpec.ofChange findRightSpec)

/-- ITS FALSE NEIGHBOUR: 'it returns false'. Refute it at one input. -/
def findRightWrong : ChangeSpec := { name := "findRight", fn := fun _ => fun
  | [d1, d2] => { results := [.lit (.bool false)], args := [d1, d2] }
  | _ => none }
def FindRightWrongFalsely : Prop := findRightRow.holds Tryd.pinned (OpenSpec.ofChange findRightWrong)

/-- 'punnetlaw10.FindKeeps': WHATEVER THE INPUT: true; the input reads as it did. -/
def findKeepsSpec : ChangeSpec := { name := "findKeeps", fn := fun _ => fun
  | [d1, d2] => { results := [.lit (.bool true)], args := [d1, d2] }
  | _ => none }
def findKeepsRow : OpenClaim := { program := "ytbjkncgpoengaaadoor", sum := "07a1f986789a4b6962c3a92a222c6e30c89b8e2aa4b8e0769cc68cf390af3f07", func := "punnet/punnetlaw10.FindKeeps", spec := "findKeeps", unfollowed := true, recurses := true, named := ["math/bits.deBruijn64tab"], apart := false, laid := [("math/bits.deBruijn64tab", laid_math_bits_deBruijn64tab)] }
def FindKeepsSaid : Prop := findKeepsRow.holds Tryd.pinned (OpenSpec.ofChange findKeepsSpec)

/-- ITS FALSE NEIGHBOUR: 'it returns false'. Refute it at one input. -/
def findKeepsWrong : ChangeSpec := { name := "findKeeps", fn := fun _ => fun
  | [d1, d2] => { results := [.lit (.bool false)], args := [d1, d2] }
  | _ => none }
def FindKeepsWrongFalsely : Prop := findKeepsRow.holds Tryd.pinned (OpenSpec.ofChange findKeepsWrong)

/-- 'punnetlaw02.GapsNear': WHATEVER THE INPUT: true; the input reads as it did. -/
def gapsNearSpec : ChangeSpec := { name := "gapsNear", fn := fun _ => fun
  | [d1, d2, d3] => { results := [.lit (.bool true)], args := [d1, d2, d3] }
  | _ => none }
def gapsNearRow : OpenClaim := { program := "ytbjkncgpoengaaadoor", sum := "07a1f986789a4b6962c3a92a222c6e30c89b8e2aa4b8e0769cc68cf390af3f07", func := "punnet/punnetlaw02.GapsNear", spec := "gapsNear", unfollowed := true, recurses := true, named := ["math/bits.deBruijn64tab"], apart := false, laid := [("math/bits.deBruijn64tab", laid_math_bits_deBruijn64tab)] }
def GapsNearSaid : Prop := gapsNearRow.holds Tryd.pinned (OpenSpec.ofChange gapsNearSpec)

/-- ITS FALSE NEIGHBOUR: 'it returns false'. Refute it at one input. -/
def gapsNearWrong : ChangeSpec := { name := "gapsNear", fn := fun _ => fun
  | [d1, d2, d3] => { results := [.lit (.bool false)], args := [d1, d2, d3] }
  | _ => none }
def GapsNearWrongFalsely : Prop := gapsNearRow.holds Tryd.pinned (OpenSpec.ofChange gapsNearWrong)

/-- 'punnetlaw02.GapsOwn': WHATEVER THE INPUT: true; the input reads as it did. -/
def gapsOwnSpec : ChangeSpec := { name := "gapsOwn", fn := fun _ => fun
  | [d1, d2, d3] => { results := [.lit (.bool true)], args := [d1, d2, d3] }
  | _ => none }
def gapsOwnRow : OpenClaim := { program := "ytbjkncgpoengaaadoor", sum := "07a1f986789a4b6962c3a92a222c6e30c89b8e2aa4b8e0769cc68cf390af3f07", func := "punnet/punnetlaw02.GapsOwn", spec := "gapsOwn", unfollowed := true, recurses := true, named := ["math/bits.deBruijn64tab"], apart := false, laid := [("math/bits.deBruijn64tab", laid_math_bits_deBruijn64tab)] }
def GapsOwnSaid : Prop := gapsOwnRow.holds Tryd.pinned (OpenSpec.ofChange gapsOwnSpec)

/-- ITS FALSE NEIGHBOUR: 'it returns false'. Refute it at one input. -/
def gapsOwnWrong : ChangeSpec := { name := "gapsOwn", fn := fun _ => fun
  | [d1, d2, d3] => { results := [.lit (.bool false)], args := [d1, d2, d3] }
  | _ => none }
def GapsOwnWrongFalsely : Prop := gapsOwnRow.holds Tryd.pinned (OpenSpec.ofChange gapsOwnWrong)

/-- 'punnetlaw10.FindRanks': WHATEVER THE INPUT: true; the input reads as it did. -/
def findRanksSpec : ChangeSpec := { name := "findRanks", fn := fun _ => fun
  | [d1, d2] => { results := [.lit (.bool true)], args := [d1, d2] }
  | _ => none }
def findRanksRow : OpenClaim := { program := "ytbjkncgpoengaaadoor", sum := "07a1f986789a4b6962c3a92a222c6e30c89b8e2aa4b8e0769cc68cf390af3f07", func := "punnet/punnetlaw10.FindRanks", spec := "findRanks", unfollowed := true, recurses := true, named := ["math/bits.deBruijn64tab"], apart := false, laid := [("math/bits.deBruijn64tab", laid_math_bits_deBruijn64tab)] }
def FindRanksSaid : Prop := findRanksRow.holds Tryd.pinned (OpenSpec.ofChange findRanksSpec)

/-- ITS FALSE NEIGHBOUR: 'it returns false'. Refute it at one input. -/
def findRanksWrong : ChangeSpec := { name := "findRanks", fn := fun _ => fun
  | [d1, d2] => { results := [.lit (.bool false)], args := [d1, d2] }
  | _ => none }
def FindRanksWrongFalsely : Prop := findRanksRow.holds Tryd.pinned (OpenSpec.ofChange findRanksWrong)

/- THE SECOND FORM. 'bulk': how many values and letters a reading holds, each counted each time it is reached (what is shared counts as often as it is met; a slice's spare places count too). A statement '..UptoSaid' is the law's where the arguments, and the package variables that the reading takes, are together of bulk at most 1048576: NARROWER than '..Said'. Prove '..Said' where nothing that the law and all that it calls make is longer than what came in: it says more and counts as full. Else prove '..UptoSaid'. A law counts once. -/
mutual
def uptoBulk {H : Type} : DataW H → Nat
  | .lit (.string bytes) => bytes.length + 1
  | .lit _ => 1
  | .nil => 1
  | .ptr d => uptoBulk d + 1
  | .slice elems spare => uptoBulkAll elems + uptoBulkAll spare + 1
  | .agg parts => uptoBulkAll parts + 1
  | .iface _ d => uptoBulk d + 1
  | .map entries => uptoBulkEntries entries + 1
  | .held _ => 1
def uptoBulkAll {H : Type} : List (DataW H) → Nat
  | [] => 0
  | d :: r => uptoBulk d + uptoBulkAll r
def uptoBulkEntries {H : Type} : List (Lit × DataW H) → Nat
  | [] => 0
  | x :: r => uptoBulkEntry x + uptoBulkEntries r
def uptoBulkEntry {H : Type} : Lit × DataW H → Nat
  | (.string bytes, d) => bytes.length + uptoBulk d + 1
  | (_, d) => uptoBulk d + 1
 end
def uptoSmall : (H : Type) → List (DataW H) → Bool := fun _ ds => decide (uptoBulkAll ds ≤ 1048576)
def OpenSpec.upto (s : _root_.Go.ChangeSpec) : _root_.Go.OpenSpec := { _root_.Go.OpenSpec.ofChange s with cond := some uptoSmall }

/-- 'punnetlaw02.GapsKinds', WHERE WHAT IT READS IS OF BULK AT MOST 1048576: true; the input reads as it did. -/
def gapsKindsUptoRow : OpenClaim := { program := "ytbjkncgpoengaaadoor", sum := "07a1f986789a4b6962c3a92a222c6e30c89b8e2aa4b8e0769cc68cf390af3f07", func := "punnet/punnetlaw02.GapsKinds", spec := "gapsKinds", unfollowed := true, recurses := true, named := ["math/bits.deBruijn64tab"], apart := false, laid := [("math/bits.deBruijn64tab", laid_math_bits_deBruijn64tab)], narrowed := true }
def GapsKindsUptoSaid : Prop := gapsKindsUptoRow.holds Tryd.pinned (OpenSpec.upto gapsKindsSpec)

/-- 'punnetlaw02.GapsGoes', WHERE WHAT IT READS IS OF BULK AT MOST 1048576: true; the input reads as it did. -/
def gapsGoesUptoRow : OpenClaim := { program := "ytbjkncgpoengaaadoor", sum := "07a1f986789a4b6962c3a92a222c6e30c89b8e2aa4b8e0769cc68cf390af3f07", func := "punnet/punnetlaw02.GapsGoes", spec := "gapsGoes", unfollowed := true, recurses := true, named := ["math/bits.deBruijn64tab"], apart := false, laid := [("math/bits.deBruijn64tab", laid_math_bits_deBruijn64tab)], narrowed := true }
def GapsGoesUptoSaid : Prop := gapsGoesUptoRow.holds Tryd.pinned (OpenSpec.upto gapsGoesSpec)

/-- 'punnetlaw02.GapsPlays', WHERE WHAT IT READS IS OF BULK AT MOST 1048576: true; the input reads as it did. -/
def gapsPlaysUptoRow : OpenClaim := { program := "ytbjkncgpoengaaadoor", sum := "07a1f986789a4b6962c3a92a222c6e30c89b8e2aa4b8e0769cc68cf390af3f07", func := "punnet/punnetlaw02.GapsPlays", spec := "gapsPlays", unfollowed := true, recurses := true, named := ["math/bits.deBruijn64tab"], apart := false, laid := [("math/bits.deBruijn64tab", laid_math_bits_deBruijn64tab)], narrowed := true }
def GapsPlaysUptoSaid : Prop := gapsPlaysUptoRow.holds Tryd.pinned (OpenSpec.upto gapsPlaysSpec)

/-- 'punnetlaw10.FindSearches', WHERE WHAT IT READS IS OF BULK AT MOST 1048576: true; the input reads as it did. -/
def findSearchesUptoRow : OpenClaim := { program := "ytbjkncgpoengaaadoor", sum := "07a1f986789a4b6962c3a92a222c6e30c89b8e2aa4b8e0769cc68cf390af3f07", func := "punnet/punnetlaw10.FindSearches", spec := "findSearches", unfollowed := true, recurses := true, named := ["math/bits.deBruijn64tab"], apart := false, laid := [("math/bits.deBruijn64tab", laid_math_bits_deBruijn64tab)], narrowed := true }
def FindSearchesUptoSaid : Prop := findSearchesUptoRow.holds Tryd.pinned (OpenSpec.upto findSearchesSpec)

/-- 'punnetlaw02.GapsMoves', WHERE WHAT IT READS IS OF BULK AT MOST 1048576: true; the input reads as it did. -/
def gapsMovesUptoRow : OpenClaim := { program := "ytbjkncgpoengaaadoor", sum := "07a1f986789a4b6962c3a92a222c6e30c89b8e2aa4b8e0769cc68cf390af3f07", func := "punnet/punnetlaw02.GapsMoves", spec := "gapsMoves", unfollowed := true, recurses := true, named := ["math/bits.deBruijn64tab"], apart := false, laid := [("math/bits.deBruijn64tab", laid_math_bits_deBruijn64tab)], narrowed := true }
def GapsMovesUptoSaid : Prop := gapsMovesUptoRow.holds Tryd.pinned (OpenSpec.upto gapsMovesSpec)

/-- 'punnetlaw10.FindRight', WHERE WHAT IT READS IS OF BULK AT MOST 1048576: true; the input reads as it did. -/
def findRightUptoRow : OpenClaim := { program := "ytbjkncgpoengaaadoor", sum := "07a1f986789a4b6962c3a92a222c6e30c89b8e2aa4b8e0769cc68cf390af3f07", func := "punnet/punnetlaw10.FindRight", spec := "findRight", unfollowed := true, recurses := true, named := ["math/bits.deBruijn64tab"], apart := false, laid := [("math/bits.deBruijn64tab", laid_math_bits_deBruijn64tab)], narrowed := true }
def FindRightUptoSaid : Prop := findRightUptoRow.holds Tryd.pinned (OpenSpec.upto findRightSpec)

/-- 'punnetlaw10.FindKeeps', WHERE WHAT IT READS IS OF BULK AT MOST 1048576: true; the input reads as it did. -/
def findKeepsUptoRow : OpenClaim := { program := "ytbjkncgpoengaaadoor", sum := "07a1f986789a4b6962c3a92a222c6e30c89b8e2aa4b8e0769cc68cf390af3f07", func := "punnet/punnetlaw10.FindKeeps", spec := "findKeeps", unfollowed := true, recurses := true, named := ["math/bits.deBruijn64tab"], apart := false, laid := [("math/bits.deBruijn64tab", laid_math_bits_deBruijn64tab)], narrowed := true }
def FindKeepsUptoSaid : Prop := findKeepsUptoRow.holds Tryd.pinned (OpenSpec.upto findKeepsSpec)

/-- 'punnetlaw02.GapsNear', WHERE WHAT IT READS IS OF BULK AT MOST 1048576: true; the input reads as it did. -/
def gapsNearUptoRow : OpenClaim := { program := "ytbjkncgpoengaaadoor", sum := "07a1f986789a4b6962c3a92a222c6e30c89b8e2aa4b8e0769cc68cf390af3f07", func := "punnet/punnetlaw02.GapsNear", spec := "gapsNear", unfollowed := true, recurses := true, named := ["math/bits.deBruijn64tab"], apart := false, laid := [("math/bits.deBruijn64tab", laid_math_bits_deBruijn64tab)], narrowed := true }
def GapsNearUptoSaid : Prop := gapsNearUptoRow.holds Tryd.pinned (OpenSpec.upto gapsNearSpec)

/-- 'punnetlaw02.GapsOwn', WHERE WHAT IT READS IS OF BULK AT MOST 1048576: true; the input reads as it did. -/
def gapsOwnUptoRow : OpenClaim := { program := "ytbjkncgpoengaaadoor", sum := "07a1f986789a4b6962c3a92a222c6e30c89b8e2aa4b8e0769cc68cf390af3f07", func := "punnet/punnetlaw02.GapsOwn", spec := "gapsOwn", unfollowed := true, recurses := true, named := ["math/bits.deBruijn64tab"], apart := false, laid := [("math/bits.deBruijn64tab", laid_math_bits_deBruijn64tab)], narrowed := true }
def GapsOwnUptoSaid : Prop := gapsOwnUptoRow.holds Tryd.pinned (OpenSpec.upto gapsOwnSpec)

/-- 'punnetlaw10.FindRanks', WHERE WHAT IT READS IS OF BULK AT MOST 1048576: true; the input reads as it did. -/
def findRanksUptoRow : OpenClaim := { program := "ytbjkncgpoengaaadoor", sum := "07a1f986789a4b6962c3a92a222c6e30c89b8e2aa4b8e0769cc68cf390af3f07", func := "punnet/punnetlaw10.FindRanks", spec := "findRanks", unfollowed := true, recurses := true, named := ["math/bits.deBruijn64tab"], apart := false, laid := [("math/bits.deBruijn64tab", laid_math_bits_deBruijn64tab)], narrowed := true }
def FindRanksUptoSaid : Prop := findRanksUptoRow.holds Tryd.pinned (OpenSpec.upto findRanksSpec)

end Rows
end Go.Proofs.YtbjkncgpoengaaaDoor
