/-
  NARROWER THAN 'FOR EVERY INPUT', by the rows' own cells (each row's printed sentence says how): LevelRoom: laid · LevelShapes: laid · LevelWindows: laid · LevelNests: laid · LevelBounds: laid · LevelTurns: laid · PickPicks: laid · PickAfter: laid · PickSmallest: laid · PickChain: laid · PickFull: laid · PickKeeps: laid.
  DERIVED. THE GIVEN ROWS OF THIS SEAT. 12 by the template 'for every input the law returns true; each argument reads behind the call as it read before'; 0 by the template 'total and deterministic' (their statements: YtlaegahdignphaaDoorTotals.lean).
  GIVEN WITH THE SEED: the statements are not yours to turn. If you find one false, say at which input.
  Laid BY PROGRAM, IN A SANDBOX (cutbox-rows.mjs): the forced cells as the released guide's own fill.sh prints them over the translation 0892fe9a5e4422e1… (all of the seat's roots in one cut). By AI agents, Wed Nov 11 2026. No macro, syntax, notation, axiom, sorry.
-/
import Derived.Test.YtlaegahdignphaaDoorChecked
import GoSem.Claim
import GoSem.ClaimJoined
import GoSem.ClaimMapViews
import Derived.JoinedTies
import Derived.KernelRfl
namespace Go.Proofs.YtlaegahdignphaaDoor
/- THE CELL 'sum', in the pinned program and in every row, IS THE sha256 OF THE DUMP (.gsa) THAT YtlaegahdignphaaDoorProg.lean LOADS. Nothing in Lean hashes anything: it is a label: what it is worth is what the hold of that sum in a sandbox is worth. -/
noncomputable def Tryd.pinned : Pinned := { name := "ytlaegahdignphaadoor", sum := "0892fe9a5e4422e1a4df1a1f8ba1f3355ae285114233febbeb5efe172614ceaf", checked := Tryd.checked }
namespace Rows
def none {H : Type} : Left H := { results := [], args := [] }

/- WHAT THE LISTED PACKAGE-LEVEL VARIABLES READ AS WHEN THE CALL BEGINS. Each datum BY PROGRAM (the guide's laid-datum.mjs) off the statement by which the dump's own 'gosem.cut.vars' lays the variable. In a bare row this is a premise. The card (YtlaegahdignphaaDoorCards.lean) ties it to the program's text. -/
def laid_math_bits_deBruijn32tab {H : Type} : DataW H := .agg [.lit (.int .u8 0), .lit (.int .u8 1), .lit (.int .u8 28), .lit (.int .u8 2), .lit (.int .u8 29), .lit (.int .u8 14), .lit (.int .u8 24), .lit (.int .u8 3), .lit (.int .u8 30), .lit (.int .u8 22), .lit (.int .u8 20), .lit (.int .u8 15), .lit (.int .u8 25), .lit (.int .u8 17), .lit (.int .u8 4), .lit (.int .u8 8), .lit (.int .u8 31), .lit (.int .u8 27), .lit (.int .u8 13), .lit (.int .u8 23), .lit (.int .u8 21), .lit (.int .u8 19), .lit (.int .u8 16), .lit (.int .u8 7), .lit (.int .u8 26), .lit (.int .u8 12), .lit (.int .u8 18), .lit (.int .u8 6), .lit (.int .u8 11), .lit (.int .u8 5), .lit (.int .u8 10), .lit (.int .u8 9)]
def laid_math_bits_deBruijn64tab {H : Type} : DataW H := .agg [.lit (.int .u8 0), .lit (.int .u8 1), .lit (.int .u8 56), .lit (.int .u8 2), .lit (.int .u8 57), .lit (.int .u8 49), .lit (.int .u8 28), .lit (.int .u8 3), .lit (.int .u8 61), .lit (.int .u8 58), .lit (.int .u8 42), .lit (.int .u8 50), .lit (.int .u8 38), .lit (.int .u8 29), .lit (.int .u8 17), .lit (.int .u8 4), .lit (.int .u8 62), .lit (.int .u8 47), .lit (.int .u8 59), .lit (.int .u8 36), .lit (.int .u8 45), .lit (.int .u8 43), .lit (.int .u8 51), .lit (.int .u8 22), .lit (.int .u8 53), .lit (.int .u8 39), .lit (.int .u8 33), .lit (.int .u8 30), .lit (.int .u8 24), .lit (.int .u8 18), .lit (.int .u8 12), .lit (.int .u8 5), .lit (.int .u8 63), .lit (.int .u8 55), .lit (.int .u8 48), .lit (.int .u8 27), .lit (.int .u8 60), .lit (.int .u8 41), .lit (.int .u8 37), .lit (.int .u8 16), .lit (.int .u8 46), .lit (.int .u8 35), .lit (.int .u8 44), .lit (.int .u8 21), .lit (.int .u8 52), .lit (.int .u8 32), .lit (.int .u8 23), .lit (.int .u8 11), .lit (.int .u8 54), .lit (.int .u8 26), .lit (.int .u8 40), .lit (.int .u8 15), .lit (.int .u8 34), .lit (.int .u8 20), .lit (.int .u8 31), .lit (.int .u8 10), .lit (.int .u8 25), .lit (.int .u8 14), .lit (.int .u8 19), .lit (.int .u8 9), .lit (.int .u8 13), .lit (.int .u8 8), .lit (.int .u8 7), .lit (.int .u8 6)]

/-- 'punnetlaw03.LevelRoom': WHATEVER THE INPUT: true; the input reads as it did. -/
def levelRoomSpec : ChangeSpec := { name := "levelRoom", fn := fun _ => fun
  | [d] => { results := [.lit (.bool true)], args := [d] }
  | _ => none }
def levelRoomRow : OpenClaim := { program := "ytlaegahdignphaadoor", sum := "0892fe9a5e4422e1a4df1a1f8ba1f3355ae285114233febbeb5efe172614ceaf", func := "punnet/punnetlaw03.LevelRoom", spec := "levelRoom", unfollowed := true, recurses := true, named := ["math/bits.deBruijn32tab", "math/bits.deBruijn64tab"], apart := false, laid := [("math/bits.deBruijn32tab", laid_math_bits_deBruijn32tab), ("math/bits.deBruijn64tab", laid_math_bits_deBruijn64tab)] }
def LevelRoomSaid : Prop := levelRoomRow.holds Tryd.pinned (OpenSpec.ofChange levelRoomSpec)

/-- ITS FALSE NEIGHBOUR: 'it returns false'. Refute it at one input. -/
def levelRoomWrong : ChangeSpec := { name := "levelRoom", fn := fun _ => fun
  | [d] => { results := [.lit (.bool false)], args := [d] }
  | _ => none }
def LevelRoomWrongFalsely : Prop := levelRoomRow.holds Tryd.pinned (OpenSpec.ofChange levelRoomWrong)

/-- 'punnetlaw03.LevelShapes': WHATEVER THE INPUT: true; the input reads as it did. -/
def levelShapesSpec : ChangeSpec := { name := "levelShapes", fn := fun _ => fun
  | [d1, d2] => { results := [.lit (.bool true)], args := [d1, d2] }
  | _ => none }
def levelShapesRow : OpenClaim := { program := "ytlaegahdignphaadoor", sum := "0892fe9a5e4422e1a4df1a1f8ba1f3355ae285114233febbeb5efe172614ceaf", func := "punnet/punnetlaw03.LevelShapes", spec := "levelShapes", unfollowed := true, recurses := true, named := ["math/bits.deBruijn32tab", "math/bits.deBruijn64tab"], apart := false, laid := [("math/bits.deBruijn32tab", laid_math_bits_deBruijn32tab), ("math/bits.deBruijn64tab", laid_math_bits_deBruijn64tab)] }
def LevelShapesSaid : Prop := levelShapesRow.holds Tryd.pinned (OpenSpec.ofChange levelShapesSpec)

/-- ITS FALSE NEIGHBOUR: 'it returns false'. Refute it at one input. -/
def levelShapesWrong : ChangeSpec := { name := "levelShapes", fn := fun _ => fun
  | [d1, d2] => { results := [.lit (.bool false)], args := [d1, d2] }
  | _ => none }
def LevelShapesWrongFalsely : Prop := levelShapesRow.holds Tryd.pinned (OpenSpec.ofChange levelShapesWrong)

/-- 'punnetlaw03.LevelWindows': WHATEVER THE INPUT: true; the input reads as it did. -/
def levelWindowsSpec : ChangeSpec := { name := "levelWindows", fn := fun _ => fun
  | [d1, d2] => { results := [.lit (.bool true)], args := [d1, d2] }
  | _ => none }
def levelWindowsRow : OpenClaim := { program := "ytlaegahdignphaadoor", sum := "0892fe9a5e4422e1a4df1a1f8ba1f3355ae285114233febbeb5efe172614ceaf", func := "punnet/punnetlaw03.LevelWindows", spec := "levelWindows", unfollowed := true, recurses := true, named := ["math/bits.deBruijn32tab", "math/bits.deBruijn64tab"], apart := false, laid := [("math/bits.deBruijn32tab", laid_math_bits_deBruijn32tab), ("math/bits.deBruijn64tab", laid_math_bits_deBruijn64tab)] }
def LevelWindowsSaid : Prop := levelWindowsRow.holds Tryd.pinned (OpenSpec.ofChange levelWindowsSpec)

/-- ITS FALSE NEIGHBOUR: 'it returns false'. Refute it at one input. -/
def levelWindowsWrong : ChangeSpec := { name := "levelWindows", fn := fun _ => fun
  | [d1, d2] => { results := [.lit (.bool false)], args := [d1, d2] }
  | _ => none }
def LevelWindowsWrongFalsely : Prop := levelWindowsRow.holds Tryd.pinned (OpenSpec.ofChange levelWindowsWrong)

/-- 'punnetlaw03.LevelNests': WHATEVER THE INPUT: true; the input reads as it did. -/
def levelNestsSpec : ChangeSpec := { name := "levelNests", fn := fun _ => fun
  | [d1, d2, d3] => { results := [.lit (.bool true)], args := [d1, d2, d3] }
  | _ => none }
def levelNestsRow : OpenClaim := { program := "ytlaegahdignphaadoor", sum := "0892fe9a5e4422e1a4df1a1f8ba1f3355ae285114233febbeb5efe172614ceaf", func := "punnet/punnetlaw03.LevelNests", spec := "levelNests", unfollowed := true, recurses := true, named := ["math/bits.deBruijn32tab", "math/bits.deBruijn64tab"], apart := false, laid := [("math/bits.deBruijn32tab", laid_math_bits_deBruijn32tab), ("math/bits.deBruijn64tab", laid_math_bits_deBruijn64tab)] }
def LevelNestsSaid : Prop := levelNestsRow.holds Tryd.pinned (OpenSpec.ofChange levelNestsSpec)

/-- ITS FALSE NEIGHBOUR: 'it returns false'. Refute it at one input. -/
def levelNestsWrong : ChangeSpec := { name := "levelNests", fn := fun _ => fun
  | [d1, d2, d3] => { results := [.lit (.bool false)], args := [d1, d2, d3] }
  | _ => none }
def LevelNestsWrongFalsely : Prop := levelNestsRow.holds Tryd.pinned (OpenSpec.ofChange levelNestsWrong)

/-- 'punnetlaw03.LevelBounds': WHATEVER THE INPUT: true; the input reads as it did. -/
def levelBoundsSpec : ChangeSpec := { name := "levelBounds", fn := fun _ => fun
  | [d1, d2, d3] => { results := [.lit (.bool true)], args := [d1, d2, d3] }
  | _ => none }
def levelBoundsRow : OpenClaim := { program := "ytlaegahdignphaadoor", sum := "0892fe9a5e4422e1a4df1a1f8ba1f3355ae285114233febbeb5efe172614ceaf", func := "punnet/punnetlaw03.LevelBounds", spec := "levelBounds", unfollowed := true, recurses := true, named := ["math/bits.deBruijn32tab", "math/bits.deBruijn64tab"], apart := false, laid := [("math/bits.deBruijn32tab", laid_math_bits_deBruijn32tab), ("math/bits.deBruijn64tab", laid_math_bits_deBruijn64tab)] }
def LevelBoundsSaid : Prop := levelBoundsRow.holds Tryd.pinned (OpenSpec.ofChange levelBoundsSpec)

/-- ITS FALSE NEIGHBOUR: 'it returns false'. Refute it at one input. -/
def levelBoundsWrong : ChangeSpec := { name := "levelBounds", fn := fun _ => fun
  | [d1, d2, d3] => { results := [.lit (.bool false)], args := [d1, d2, d3] }
  | _ => none }
def LevelBoundsWrongFalsely : Prop := levelBoundsRow.holds Tryd.pinned (OpenSpec.ofChange levelBoundsWrong)

/-- 'punnetlaw03.LevelTurns': WHATEVER THE INPUT: true; the input reads as it did. -/
def levelTurnsSpec : ChangeSpec := { name := "levelTurns", fn := fun _ => fun
  | [d1, d2] => { results := [.lit (.bool true)], args := [d1, d2] }
  | _ => none }
def levelTurnsRow : OpenClaim := { program := "ytlaegahdignphaadoor", sum := "0892fe9a5e4422e1a4df1a1f8ba1f3355ae285114233febbeb5efe172614ceaf", func := "punnet/punnetlaw03.LevelTurns", spec := "levelTurns", unfollowed := true, recurses := true, named := ["math/bits.deBruijn32tab", "math/bits.deBruijn64tab"], apart := false, laid := [("math/bits.deBruijn32tab", laid_math_bits_deBruijn32tab), ("math/bits.deBruijn64tab", laid_math_bits_deBruijn64tab)] }
def LevelTurnsSaid : Prop := levelTurnsRow.holds Tryd.pinned (OpenSpec.ofChange levelTurnsSpec)

/-- ITS FALSE NEIGHBOUR: 'it returns false'. Refute it at one input. -/
def levelTurnsWrong : ChangeSpec := { name := "levelTurns", fn := fun _ => fun
  | [d1, d2] => { results := [.lit (.bool false)], args := [d1, d2] }
  | _ => none }
def LevelTurnsWrongFalsely : Prop := levelTurnsRow.holds Tryd.pinned (OpenSpec.ofChange levelTurnsWrong)

/-- 'punnetlaw05.PickPicks': WHATEVER THE INPUT: true; the input reads as it did. -/
def pickPicksSpec : ChangeSpec := { name := "pickPicks", fn := fun _ => fun
  | [d1, d2] => { results := [.lit (.bool true)], args := [d1, d2] }
  | _ => none }
def pickPicksRow : OpenClaim := { program := "ytlaegahdignphaadoor", sum := "0892fe9a5e4422e1a4df1a1f8ba1f3355ae285114233febbeb5efe172614ceaf", func := "punnet/punnetlaw05.PickPicks", spec := "pickPicks", unfollowed := true, recurses := true, named := ["math/bits.deBruijn32tab", "math/bits.deBruijn64tab"], apart := false, laid := [("math/bits.deBruijn32tab", laid_math_bits_deBruijn32tab), ("math/bits.deBruijn64tab", laid_math_bits_deBruijn64tab)] }
def PickPicksSaid : Prop := pickPicksRow.holds Tryd.pinned (OpenSpec.ofChange pickPicksSpec)

/-- ITS FALSE NEIGHBOUR: 'it returns false'. Refute it at one input. -/
def pickPicksWrong : ChangeSpec := { name := "pickPicks", fn := fun _ => fun
  | [d1, d2] => { results := [.lit (.bool false)], args := [d1, d2] }
  | _ => none }
def PickPicksWrongFalsely : Prop := pickPicksRow.holds Tryd.pinned (OpenSpec.ofChange pickPicksWrong)

/-- 'punnetlaw05.PickAfter': WHATEVER THE INPUT: true; the input reads as it did. -/
def pickAfterSpec : ChangeSpec := { name := "pickAfter", fn := fun _ => fun
  | [d1, d2] => { results := [.lit (.bool true)], args := [d1, d2] }
  | _ => none }
def pickAfterRow : OpenClaim := { program := "ytlaegahdignphaadoor", sum := "0892fe9a5e4422e1a4df1a1f8ba1f3355ae285114233febbeb5efe172614ceaf", func := "punnet/punnetlaw05.PickAfter", spec := "pickAfter", unfollowed := true, recurses := true, named := ["math/bits.deBruijn32tab", "math/bits.deBruijn64tab"], apart := false, laid := [("math/bits.deBruijn32tab", laid_math_bits_deBruijn32tab), ("math/bits.deBruijn64tab", laid_math_bits_deBruijn64tab)] }
def PickAfterSaid : Prop := pickAfterRow.holds Tryd.pinned (OpenSpec.ofChange pickAfterSpec)

/-- ITS FALSE NEIGHBOUR: 'it returns false'. Refute it at one input. -/
def pickAfterWrong : ChangeSpec := { name := "pickAfter", fn := fun _ => fun
  | [d1, d2] => { results := [.lit (.bool false)], args := [d1, d2] }
  | _ => none }
def PickAfterWrongFalsely : Prop := pickAfterRow.holds Tryd.pinned (OpenSpec.ofChange pickAfterWrong)

/-- 'punnetlaw05.PickSmallest': WHATEVER THE INPUT: true; the input reads as it did. -/
def pickSmallestSpec : ChangeSpec := { name := "pickSmallest", fn := fun _ => fun
  | [d1, d2] => { results := [.lit (.bool true)], args := [d1, d2] }
  | _ => none }
def pickSmallestRow : OpenClaim := { program := "ytlaegahdignphaadoor", sum := "0892fe9a5e4422e1a4df1a1f8ba1f3355ae285114233febbeb5efe172614ceaf", func := "punnet/punnetlaw05.PickSmallest", spec := "pickSmallest", unfollowed := true, recurses := true, named := ["math/bits.deBruijn32tab", "math/bits.deBruijn64tab"], apart := false, laid := [("math/bits.deBruijn32tab", laid_math_bits_deBruijn32tab), ("math/bits.deBruijn64tab", laid_math_bits_deBruijn64tab)] }
def PickSmallestSaid : Prop := pickSmallestRow.holds Tryd.pinned (OpenSpec.ofChange pickSmallestSpec)

/-- ITS FALSE NEIGHBOUR: 'it returns false'. Refute it at one input. -/
def pickSmallestWrong : ChangeSpec := { name := "pickSmallest", fn := fun _ => fun
  | [d1, d2] => { results := [.lit (.bool false)], args := [d1, d2] }
  | _ => none }
def PickSmallestWrongFalsely : Prop := pickSmallestRow.holds Tryd.pinned (OpenSpec.ofChange pickSmallestWrong)

/-- 'punnetlaw05.PickChain': WHATEVER THE INPUT: true; the input reads as it did. -/
def pickChainSpec : ChangeSpec := { name := "pickChain", fn := fun _ => fun
  | [d] => { results := [.lit (.bool true)], args := [d] }
  | _ => none }
def pickChainRow : OpenClaim := { program := "ytlaegahdignphaadoor", sum := "0892fe9a5e4422e1a4df1a1f8ba1f3355ae285114233febbeb5efe172614ceaf", func := "punnet/punnetlaw05.PickChain", spec := "pickChain", unfollowed := true, recurses := true, named := ["math/bits.deBruijn32tab", "math/bits.deBruijn64tab"], apart := false, laid := [("math/bits.deBruijn32tab", laid_math_bits_deBruijn32tab), ("math/bits.deBruijn64tab", laid_math_bits_deBruijn64tab)] }
def PickChainSaid : Prop := pickChainRow.holds Tryd.pinned (OpenSpec.ofChange pickChainSpec)

/-- ITS FALSE NEIGHBOUR: 'it returns false'. Refute it at one input. -/
def pickChainWrong : ChangeSpec := { name := "pickChain", fn := fun _ => fun
  | [d] => { results := [.lit (.bool false)], args := [d] }
  | _ => none }
def PickChainWrongFalsely : Prop := pickChainRow.holds Tryd.pinned (OpenSpec.ofChange pickChainWrong)

/-- 'punnetlaw05.PickFull': WHATEVER THE INPUT: true; the input reads as it did. -/
def pickFullSpec : ChangeSpec := { name := "pickFull", fn := fun _ => fun
  | [d1, d2] => { results := [.lit (.bool true)], args := [d1, d2] }
  | _ => none }
def pickFullRow : OpenClaim := { program := "ytlaegahdignphaadoor", sum := "0892fe9a5e4422e1a4df1a1f8ba1f3355ae285114233febbeb5efe172614ceaf", func := "punnet/punnetlaw05.PickFull", spec := "pickFull", unfollowed := true, recurses := true, named := ["math/bits.deBruijn32tab", "math/bits.deBruijn64tab"], apart := false, laid := [("math/bits.deBruijn32tab", laid_math_bits_deBruijn32tab), ("math/bits.deBruijn64tab", laid_math_bits_deBruijn64tab)] }
def PickFullSaid : Prop := pickFullRow.holds Tryd.pinned (OpenSpec.ofChange pickFullSpec)

/-- ITS FALSE NEIGHBOUR: 'it returns false'. Refute it at one input. -/
def pickFullWrong : ChangeSpec := { name := "pickFull", fn := fun _ => fun
  | [d1, d2] => { results := [.lit (.bool false)], args := [d1, d2] }
  | _ => none }
def PickFullWrongFalsely : Prop := pickFullRow.holds Tryd.pinned (OpenSpec.ofChange pickFullWrong)

/-- 'punnetlaw05.PickKeeps': WHATEVER THE INPUT: true; the input reads as it did. -/
def pickKeepsSpec : ChangeSpec := { name := "pickKeeps", fn := fun _ => fun
  | [d1, d2] => { results := [.lit (.bool true)], args := [d1, d2] }
  | _ => none }
def pickKeepsRow : OpenClaim := { program := "ytlaegahdignphaadoor", sum := "0892fe9a5e4422e1a4df1a1f8ba1f3355ae285114233febbeb5efe172614ceaf", func := "punnet/punnetlaw05.PickKeeps", spec := "pickKeeps", unfollowed := true, recurses := true, named := ["math/bits.deBruijn32tab", "math/bits.deBruijn64tab"], apart := false, laid := [("math/bits.deBruijn32tab", laid_math_bits_deBruijn32tab), ("math/bits.deBruijn64tab", laid_math_bits_deBruijn64tab)] }
def PickKeepsSaid : Prop := pickKeepsRow.holds Tryd.pinned (OpenSpec.ofChange pickKeepsSpec)

/-- ITS FALSE NEIGHBOUR: 'it returns false'. Refute it at one input. -/
def pickKeepsWrong : ChangeSpec := { name := "pickKeeps", fn := fun _ => fun
  | [d1, d2] => { results := [.lit (.bool false)], args := [d1, d2] }
  | _ => none }
def PickKeepsWrongFalsely : Prop := pickKeepsRow.holds Tryd.pinned (OpenSpec.ofChange pickKeepsWrong)

/- THE SECOND FORM. 'bulk': how many values and letters a reading holds, each counted each time it is reached (what is shared counts as often as it is met; a slice's spare places count too). A statement '..UptoSaid' is the law's where the arguments, and the package variables that the reading takes, are together of bulk at most 1048576: NARROWER than '..Said'. Prove '..Said' where nothing that the law and all that it calls make is longer than what came in: it says more and counts as full. Else prove '..UptoSaid'. A law counts once. -/
mutual
def uptoBulk {H : Type} : DataW H → Nat
  | .lit (.string bytes) => bytes.length + 1
  | .lit _ => 1
  | .nil => 1
  | .ptr d => uptoBulk d + 1
  | .slice elems spare => uptoBulkAll elems + uptoBulkAll spare + 1
  | .agg parts => uptoBulkAll parts + 1
  | .iface _ d => uptoBulk d + 1
  | .map entries => uptoBulkEntries entries + 1
  | .held _ => 1
def uptoBulkAll {H : Type} : List (DataW H) → Nat
  | [] => 0
  | d :: r => uptoBulk d + uptoBulkAll r
def uptoBulkEntries {H : Type} : List (Lit × DataW H) → Nat
  | [] => 0
  | x :: r => uptoBulkEntry x + uptoBulkEntries r
def uptoBulkEntry {H : Type} : Lit × DataW H → Nat
  | (.string bytes, d) => bytes.length + uptoBulk d + 1
  | (_, d) => uptoBulk d + 1
 end
def uptoSmall : (H : Type) → List (DataW H) → Bool := fun _ ds => decide (uptoBulkAll ds ≤ 1048576)
def OpenSpec.upto (s : _root_.Go.ChangeSpec) : _root_.Go.OpenSpec := { _root_.Go.OpenSpec.ofChange s with cond := some uptoSmall }

/-- 'punnetlaw03.LevelRoom', WHERE WHAT IT READS IS OF BULK AT MOST 1048576: true; the input reads as it did. -/
def levelRoomUptoRow : OpenClaim := { program := "ytlaegahdignphaadoor", sum := "0892fe9a5e4422e1a4df1a1f8ba1f3355ae285114233febbeb5efe172614ceaf", func := "punnet/punnetlaw03.LevelRoom", spec := "levelRoom", unfollowed := true, recurses := true, named := ["math/bits.deBruijn32tab", "math/bits.deBruijn64tab"], apart := false, laid := [("math/bits.deBruijn32tab", laid_math_bits_deBruijn32tab), ("math/bits.deBruijn64tab", laid_math_bits_deBruijn64tab)], narrowed := true }
def LevelRoomUptoSaid : Prop := levelRoomUptoRow.holds Tryd.pinned (OpenSpec.upto levelRoomSpec)

/-- 'punnetlaw03.LevelShapes', WHERE WHAT IT READS IS OF BULK AT MOST 1048576: true; the input reads as it did. -/
def levelShapesUptoRow : OpenClaim := { program := "ytlaegahdignphaadoor", sum := "0892fe9a5e4422e1a4df1a1f8ba1f3355ae285114233febbeb5efe172614ceaf", func := "punnet/punnetlaw03.LevelShapes", spec := "levelShapes", unfollowed := true, recurses := true, named := ["math/bits.deBruijn32tab", "math/bits.deBruijn64tab"], apart := false, laid := [("math/bits.deBruijn32tab", laid_math_bits_deBruijn32tab), ("math/bits.deBruijn64tab", laid_math_bits_deBruijn64tab)], narrowed := true }
def LevelShapesUptoSaid : Prop := levelShapesUptoRow.holds Tryd.pinned (OpenSpec.upto levelShapesSpec)

/-- 'punnetlaw03.LevelWindows', WHERE WHAT IT READS IS OF BULK AT MOST 1048576: true; the input reads as it did. -/
def levelWindowsUptoRow : OpenClaim := { program := "ytlaegahdignphaadoor", sum := "0892fe9a5e4422e1a4df1a1f8ba1f3355ae285114233febbeb5efe172614ceaf", func := "punnet/punnetlaw03.LevelWindows", spec := "levelWindows", unfollowed := true, recurses := true, named := ["math/bits.deBruijn32tab", "math/bits.deBruijn64tab"], apart := false, laid := [("math/bits.deBruijn32tab", laid_math_bits_deBruijn32tab), ("math/bits.deBruijn64tab", laid_math_bits_deBruijn64tab)], narrowed := true }
def LevelWindowsUptoSaid : Prop := levelWindowsUptoRow.holds Tryd.pinned (OpenSpec.upto levelWindowsSpec)

/-- 'punnetlaw03.LevelNests', WHERE WHAT IT READS IS OF BULK AT MOST 1048576: true; the input reads as it did. -/
def levelNestsUptoRow : OpenClaim := { program := "ytlaegahdignphaadoor", sum := "0892fe9a5e4422e1a4df1a1f8ba1f3355ae285114233febbeb5efe172614ceaf", func := "punnet/punnetlaw03.LevelNests", spec := "levelNests", unfollowed := true, recurses := true, named := ["math/bits.deBruijn32tab", "math/bits.deBruijn64tab"], apart := false, laid := [("math/bits.deBruijn32tab", laid_math_bits_deBruijn32tab), ("math/bits.deBruijn64tab", laid_math_bits_deBruijn64tab)], narrowed := true }
def LevelNestsUptoSaid : Prop := levelNestsUptoRow.holds Tryd.pinned (OpenSpec.upto levelNestsSpec)

/-- 'punnetlaw03.LevelBounds', WHERE WHAT IT READS IS OF BULK AT MOST 1048576: true; the input reads as it did. -/
def levelBoundsUptoRow : OpenClaim := { program := "ytlaegahdignphaadoor", sum := "0892fe9a5e4422e1a4df1a1f8ba1f3355ae285114233febbeb5efe172614ceaf", func := "punnet/punnetlaw03.LevelBounds", spec := "levelBounds", unfollowed := true, recurses := true, named := ["math/bits.deBruijn32tab", "math/bits.deBruijn64tab"], apart := false, laid := [("math/bits.deBruijn32tab", laid_math_bits_deBruijn32tab), ("math/bits.deBruijn64tab", laid_math_bits_deBruijn64tab)], narrowed := true }
def LevelBoundsUptoSaid : Prop := levelBoundsUptoRow.holds Tryd.pinned (OpenSpec.upto levelBoundsSpec)

/-- 'punnetlaw03.LevelTurns', WHERE WHAT IT READS IS OF BULK AT MOST 1048576: true; the input reads as it did. -/
def levelTurnsUptoRow : OpenClaim := { program := "ytlaegahdignphaadoor", sum := "0892fe9a5e4422e1a4df1a1f8ba1f3355ae285114233febbeb5efe172614ceaf", func := "punnet/punnetlaw03.LevelTurns", spec := "levelTurns", unfollowed := true, recurses := true, named := ["math/bits.deBruijn32tab", "math/bits.deBruijn64tab"], apart := false, laid := [("math/bits.deBruijn32tab", laid_math_bits_deBruijn32tab), ("math/bits.deBruijn64tab", laid_math_bits_deBruijn64tab)], narrowed := true }
def LevelTurnsUptoSaid : Prop := levelTurnsUptoRow.holds Tryd.pinned (OpenSpec.upto levelTurnsSpec)

/-- 'punnetlaw05.PickPicks', WHERE WHAT IT READS IS OF BULK AT MOST 1048576: true; the input reads as it did. -/
def pickPicksUptoRow : OpenClaim := { program := "ytlaegahdignphaadoor", sum := "0892fe9a5e4422e1a4df1a1f8ba1f3355ae285114233febbeb5efe172614ceaf", func := "punnet/punnetlaw05.PickPicks", spec := "pickPicks", unfollowed := true, recurses := true, named := ["math/bits.deBruijn32tab", "math/bits.deBruijn64tab"], apart := false, laid := [("math/bits.deBruijn32tab", laid_math_bits_deBruijn32tab), ("math/bits.deBruijn64tab", laid_math_bits_deBruijn64tab)], narrowed := true }
def PickPicksUptoSaid : Prop := pickPicksUptoRow.holds Tryd.pinned (OpenSpec.upto pickPicksSpec)

/-- 'punnetlaw05.PickAfter', WHERE WHAT IT READS IS OF BULK AT MOST 1048576: true; the input reads as it did. -/
def pickAfterUptoRow : OpenClaim := { program := "ytlaegahdignphaadoor", sum := "0892fe9a5e4422e1a4df1a1f8ba1f3355ae285114233febbeb5efe172614ceaf", func := "punnet/punnetlaw05.PickAfter", spec := "pickAfter", unfollowed := true, recurses := true, named := ["math/bits.deBruijn32tab", "math/bits.deBruijn64tab"], apart := false, laid := [("math/bits.deBruijn32tab", laid_math_bits_deBruijn32tab), ("math/bits.deBruijn64tab", laid_math_bits_deBruijn64tab)], narrowed := true }
def PickAfterUptoSaid : Prop := pickAfterUptoRow.holds Tryd.pinned (OpenSpec.upto pickAfterSpec)

/-- 'punnetlaw05.PickSmallest', WHERE WHAT IT READS IS OF BULK AT MOST 1048576: true; the input reads as it did. -/
def pickSmallestUptoRow : OpenClaim := { program := "ytlaegahdignphaadoor", sum := "0892fe9a5e4422e1a4df1a1f8ba1f3355ae285114233febbeb5efe172614ceaf", func := "punnet/punnetlaw05.PickSmallest", spec := "pickSmallest", unfollowed := true, recurses := true, named := ["math/bits.deBruijn32tab", "math/bits.deBruijn64tab"], apart := false, laid := [("math/bits.deBruijn32tab", laid_math_bits_deBruijn32tab), ("math/bits.deBruijn64tab", laid_math_bits_deBruijn64tab)], narrowed := true }
def PickSmallestUptoSaid : Prop := pickSmallestUptoRow.holds Tryd.pinned (OpenSpec.upto pickSmallestSpec)

/-- 'punnetlaw05.PickChain', WHERE WHAT IT READS IS OF BULK AT MOST 1048576: true; the input reads as it did. -/
def pickChainUptoRow : OpenClaim := { program := "ytlaegahdignphaadoor", sum := "0892fe9a5e4422e1a4df1a1f8ba1f3355ae285114233febbeb5efe172614ceaf", func := "punnet/punnetlaw05.PickChain", spec := "pickChain", unfollowed := true, recurses := true, named := ["math/bits.deBruijn32tab", "math/bits.deBruijn64tab"], apart := false, laid := [("math/bits.deBruijn32tab", laid_math_bits_deBruijn32tab), ("math/bits.deBruijn64tab", laid_math_bits_deBruijn64tab)], narrowed := true }
def PickChainUptoSaid : Prop := pickChainUptoRow.holds Tryd.pinned (OpenSpec.upto pickChainSpec)

/-- 'punnetlaw05.PickFull', WHERE WHAT IT READS IS OF BULK AT MOST 1048576: true; the input reads as it did. -/
def pickFullUptoRow : OpenClaim := { program := "ytlaegahdignphaadoor", sum := "0892fe9a5e4422e1a4df1a1f8ba1f3355ae285114233febbeb5efe172614ceaf", func := "punnet/punnetlaw05.PickFull", spec := "pickFull", unfollowed := true, recurses := true, named := ["math/bits.deBruijn32tab", "math/bits.deBruijn64tab"], apart := false, laid := [("math/bits.deBruijn32tab", laid_math_bits_deBruijn32tab), ("math/bits.deBruijn64tab", laid_math_bits_deBruijn64tab)], narrowed := true }
def PickFullUptoSaid : Prop := pickFullUptoRow.holds Tryd.pinned (OpenSpec.upto pickFullSpec)

/-- 'punnetlaw05.PickKeeps', WHERE WHAT IT READS IS OF BULK AT MOST 1048576: true; the input reads as it did. -/
def pickKeepsUptoRow : OpenClaim := { program := "ytlaegahdignphaadoor", sum := "0892fe9a5e4422e1a4df1a1f8ba1f3355ae285114233febbeb5efe172614ceaf", func := "punnet/punnetlaw05.PickKeeps", spec := "pickKeeps", unfollowed := true, recurses := true, named := ["math/bits.deBruijn32tab", "math/bits.deBruijn64tab"], apart := false, laid := [("math/bits.deBruijn32tab", laid_math_bits_deBruijn32tab), ("math/bits.deBruijn64tab", laid_math_bits_deBruijn64tab)], narrowed := true }
def PickKeepsUptoSaid : Prop := pickKeepsUptoRow.holds Tryd.pinned (OpenSpec.upto pickKeepsSpec)

end Rows
end Go.Proofs.YtlaegahdignphaaDoor
