/-
  No cell of these rows narrows 'for every input' (looked for: loops, veiled, ifaces, maps, wideKeys, modest, calm, conditions, laid).
  DERIVED. THE GIVEN ROWS OF THIS SEAT. 4 by the template 'for every input the law returns true; each argument reads behind the call as it read before'; 0 by the template 'total and deterministic' (their statements: YthhmiieimfdffaaTotals.lean).
  GIVEN WITH THE SEED: the statements are not yours to turn. If you find one false, say at which input.
  Laid BY PROGRAM, IN A SANDBOX (cutbox-rows.mjs): the forced cells as the released guide's own fill.sh prints them over the translation 6cf91fb3f0ba6c25… (all of the seat's roots in one cut). By AI agents, Wed Nov 11 2026. No macro, syntax, notation, axiom, sorry.
-/
import Derived.Test.YthhmiieimfdffaaChecked
import GoSem.Claim
import GoSem.ClaimJoined
import GoSem.ClaimMapViews
import Derived.JoinedTies
import Derived.KernelRfl
namespace Go.Proofs.Ythhmiieimfdffaa
/- THE CELL 'sum', in the pinned program and in every row, IS THE sha256 OF THE DUMP (.gsa) THAT YthhmiieimfdffaaProg.lean LOADS. Nothing in Lean hashes anything: it is a label: what it is worth is what the hold of that sum in a sandbox is worth. -/
noncomputable def Try.pinned : Pinned := { name := "ythhmiieimfdffaa", sum := "6cf91fb3f0ba6c25af502297651d361a41dca1afb3a203c8778bb33678fa998a", checked := Try.checked }
namespace Rows
def none {H : Type} : Left H := { results := [], args := [] }

/-- 'punnetlaw19.BlockLays': WHATEVER THE INPUT: true; the input reads as it did. -/
def blockLaysSpec : ChangeSpec := { name := "blockLays", fn := fun _ => fun
  | [d1, d2] => { results := [.lit (.bool true)], args := [d1, d2] }
  | _ => none }
def blockLaysRow : OpenClaim := { program := "ythhmiieimfdffaa", sum := "6cf91fb3f0ba6c25af502297651d361a41dca1afb3a203c8778bb33678fa998a", func := "punnet/punnetlaw19.BlockLays", spec := "blockLays", unfollowed := true, recurses := true, apart := false }
def BlockLaysSaid : Prop := blockLaysRow.holds Try.pinned (OpenSpec.ofChange blockLaysSpec)

/-- ITS FALSE NEIGHBOUR: 'it returns false'. Refute it at one input. -/
def blockLaysWrong : ChangeSpec := { name := "blockLays", fn := fun _ => fun
  | [d1, d2] => { results := [.lit (.bool false)], args := [d1, d2] }
  | _ => none }
def BlockLaysWrongFalsely : Prop := blockLaysRow.holds Try.pinned (OpenSpec.ofChange blockLaysWrong)

/-- 'punnetlaw19.BlockBack': WHATEVER THE INPUT: true; the input reads as it did. -/
def blockBackSpec : ChangeSpec := { name := "blockBack", fn := fun _ => fun
  | [d1, d2, d3] => { results := [.lit (.bool true)], args := [d1, d2, d3] }
  | _ => none }
def blockBackRow : OpenClaim := { program := "ythhmiieimfdffaa", sum := "6cf91fb3f0ba6c25af502297651d361a41dca1afb3a203c8778bb33678fa998a", func := "punnet/punnetlaw19.BlockBack", spec := "blockBack", unfollowed := true, recurses := true, apart := false }
def BlockBackSaid : Prop := blockBackRow.holds Try.pinned (OpenSpec.ofChange blockBackSpec)

/-- ITS FALSE NEIGHBOUR: 'it returns false'. Refute it at one input. -/
def blockBackWrong : ChangeSpec := { name := "blockBack", fn := fun _ => fun
  | [d1, d2, d3] => { results := [.lit (.bool false)], args := [d1, d2, d3] }
  | _ => none }
def BlockBackWrongFalsely : Prop := blockBackRow.holds Try.pinned (OpenSpec.ofChange blockBackWrong)

/-- 'punnetlaw19.BlockOwn': WHATEVER THE INPUT: true; the input reads as it did. -/
def blockOwnSpec : ChangeSpec := { name := "blockOwn", fn := fun _ => fun
  | [d1, d2] => { results := [.lit (.bool true)], args := [d1, d2] }
  | _ => none }
def blockOwnRow : OpenClaim := { program := "ythhmiieimfdffaa", sum := "6cf91fb3f0ba6c25af502297651d361a41dca1afb3a203c8778bb33678fa998a", func := "punnet/punnetlaw19.BlockOwn", spec := "blockOwn", unfollowed := true, recurses := true, apart := false }
def BlockOwnSaid : Prop := blockOwnRow.holds Try.pinned (OpenSpec.ofChange blockOwnSpec)

/-- ITS FALSE NEIGHBOUR: 'it returns false'. Refute it at one input. -/
def blockOwnWrong : ChangeSpec := { name := "blockOwn", fn := fun _ => fun
  | [d1, d2] => { results := [.lit (.bool false)], args := [d1, d2] }
  | _ => none }
def BlockOwnWrongFalsely : Prop := blockOwnRow.holds Try.pinned (OpenSpec.ofChange blockOwnWrong)

/-- 'punnetlaw19.BlockAlike': WHATEVER THE INPUT: true; the input reads as it did. -/
def blockAlikeSpec : ChangeSpec := { name := "blockAlike", fn := fun _ => fun
  | [d1, d2, d3] => { results := [.lit (.bool true)], args := [d1, d2, d3] }
  | _ => none }
def blockAlikeRow : OpenClaim := { program := "ythhmiieimfdffaa", sum := "6cf91fb3f0ba6c25af502297651d361a41dca1afb3a203c8778bb33678fa998a", func := "punnet/punnetlaw19.BlockAlike", spec := "blockAlike", unfollowed := true, recurses := true, apart := false }
def BlockAlikeSaid : Prop := blockAlikeRow.holds Try.pinned (OpenSpec.ofChange blockAlikeSpec)

/-- ITS FALSE NEIGHBOUR: 'it returns false'. Refute it at one input. -/
def blockAlikeWrong : ChangeSpec := { name := "blockAlike", fn := fun _ => fun
  | [d1, d2, d3] => { results := [.lit (.bool false)], args := [d1, d2, d3] }
  | _ => none }
def BlockAlikeWrongFalsely : Prop := blockAlikeRow.holds Try.pinned (OpenSpec.ofChange blockAlikeWrong)

/- THE SECOND FORM. 'bulk': how many values and letters a reading holds, each counted each time it is reached (what is shared counts as often as it is met; a slice's spare places count too). A statement '..UptoSaid' is the law's where the arguments, and the package variables that the reading takes, are together of bulk at most 1048576: NARROWER than '..Said'. Prove '..Said' where nothing that the law and all that it calls make is longer than what came in: it says more and counts as full. Else prove '..UptoSaid'. A law counts once. -/
mutual
def uptoBulk {H : Type} : DataW H → Nat
  | .lit (.string bytes) => bytes.length + 1
  | .lit _ => 1
  | .nil => 1
  | .ptr d => uptoBulk d + 1
  | .slice elems spare => uptoBulkAll elems + uptoBulkAll spare + 1
  | .agg parts => uptoBulkAll parts + 1
  | .iface _ d => uptoBulk d + 1
  | .map entries => uptoBulkEntries entries + 1
  | .held _ => 1
def uptoBulkAll {H : Type} : List (DataW H) → Nat
  | [] => 0
  | d :: r => uptoBulk d + uptoBulkAll r
def uptoBulkEntries {H : Type} : List (Lit × DataW H) → Nat
  | [] => 0
  | x :: r => uptoBulkEntry x + uptoBulkEntries r
def uptoBulkEntry {H : Type} : Lit × DataW H → Nat
  | (.string bytes, d) => bytes.length + uptoBulk d + 1
  | (_, d) => uptoBulk d + 1
 end
def uptoSmall : (H : Type) → List (DataW H) → Bool := fun _ ds => decide (uptoBulkAll ds ≤ 1048576)
def OpenSpec.upto (s : _root_.Go.ChangeSpec) : _root_.Go.OpenSpec := { _root_.Go.OpenSpec.ofChange s with cond := some uptoSmall }

/-- 'punnetlaw19.BlockLays', WHERE WHAT IT READS IS OF BULK AT MOST 1048576: true; the input reads as it did. -/
def blockLaysUptoRow : OpenClaim := { program := "ythhmiieimfdffaa", sum := "6cf91fb3f0ba6c25af502297651d361a41dca1afb3a203c8778bb33678fa998a", func := "punnet/punnetlaw19.BlockLays", spec := "blockLays", unfollowed := true, recurses := true, apart := false, narrowed := true }
def BlockLaysUptoSaid : Prop := blockLaysUptoRow.holds Try.pinned (OpenSpec.upto blockLaysSpec)

/-- 'punnetlaw19.BlockBack', WHERE WHAT IT READS IS OF BULK AT MOST 1048576: true; the input reads as it did. -/
def blockBackUptoRow : OpenClaim := { program := "ythhmiieimfdffaa", sum := "6cf91fb3f0ba6c25af502297651d361a41dca1afb3a203c8778bb33678fa998a", func := "punnet/punnetlaw19.BlockBack", spec := "blockBack", unfollowed := true, recurses := true, apart := false, narrowed := true }
def BlockBackUptoSaid : Prop := blockBackUptoRow.holds Try.pinned (OpenSpec.upto blockBackSpec)

/-- 'punnetlaw19.BlockOwn', WHERE WHAT IT READS IS OF BULK AT MOST 1048576: true; the input reads as it did. -/
def blockOwnUptoRow : OpenClaim := { program := "ythhmiieimfdffaa", sum := "6cf91fb3f0ba6c25af502297651d361a41dca1afb3a203c8778bb33678fa998a", func := "punnet/punnetlaw19.BlockOwn", spec := "blockOwn", unfollowed := true, recurses := true, apart := false, narrowed := true }
def BlockOwnUptoSaid : Prop := blockOwnUptoRow.holds Try.pinned (OpenSpec.upto blockOwnSpec)

/-- 'punnetlaw19.BlockAlike', WHERE WHAT IT READS IS OF BULK AT MOST 1048576: true; the input reads as it did. -/
def blockAlikeUptoRow : OpenClaim := { program := "ythhmiieimfdffaa", sum := "6cf91fb3f0ba6c25af502297651d361a41dca1afb3a203c8778bb33678fa998a", func := "punnet/punnetlaw19.BlockAlike", spec := "blockAlike", unfollowed := true, recurses := true, apart := false, narrowed := true }
def BlockAlikeUptoSaid : Prop := blockAlikeUptoRow.holds Try.pinned (OpenSpec.upto blockAlikeSpec)

end Rows
end Go.Proofs.Ythhmiieimfdffaa
