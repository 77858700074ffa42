/-
  No cell of these rows narrows 'for every input' (looked for: loops, veiled, ifaces, maps, wideKeys, modest, calm, conditions, laid).
  DERIVED. THE GIVEN ROWS OF THIS SEAT. 9 by the template 'for every input the law returns true; each argument reads behind the call as it read before'; 0 by the template 'total and deterministic' (their statements: YtmjfnifdgneooaaTotals.lean).
  GIVEN WITH THE SEED: the statements are not yours to turn. If you find one false, say at which input.
  Laid BY PROGRAM, IN A SANDBOX (cutbox-rows.mjs): the forced cells as the released guide's own fill.sh prints them over the translation a7a5e2cc1a7e16a7… (all of the seat's roots in one cut). By AI agents, Wed Nov 11 2026. No macro, syntax, notation, axiom, sorry.
-/
import Derived.Test.YtmjfnifdgneooaaChecked
import GoSem.Claim
import GoSem.ClaimJoined
import GoSem.ClaimMapViews
import Derived.JoinedTies
import Derived.KernelRfl
namespace Go.Proofs.Ytmjfnifdgneooaa
/- THE CELL 'sum', in the pinned program and in every row, IS THE sha256 OF THE DUMP (.gsa) THAT YtmjfnifdgneooaaProg.lean LOADS. Nothing in Lean hashes anything: it is a label: what it is worth is what the hold of that sum in a sandbox is worth. -/
noncomputable def Try.pinned : Pinned := { name := "ytmjfnifdgneooaa", sum := "a7a5e2cc1a7e16a7a6b2af98fa136c9172ede2736b125b26ec1f2e8e9256c258", checked := Try.checked }
namespace Rows
def none {H : Type} : Left H := { results := [], args := [] }

/-- 'punnetlaw17.BisectRanks': WHATEVER THE INPUT: true; the input reads as it did. -/
def bisectRanksSpec : ChangeSpec := { name := "bisectRanks", fn := fun _ => fun
  | [d1, d2] => { results := [.lit (.bool true)], args := [d1, d2] }
  | _ => none }
def bisectRanksRow : OpenClaim := { program := "ytmjfnifdgneooaa", sum := "a7a5e2cc1a7e16a7a6b2af98fa136c9172ede2736b125b26ec1f2e8e9256c258", func := "punnet/punnetlaw17.BisectRanks", spec := "bisectRanks", unfollowed := true, recurses := true, apart := false }
def BisectRanksSaid : Prop := bisectRanksRow.holds Try.pinned (OpenSpec.ofChange bisectRanksSpec)

/-- ITS FALSE NEIGHBOUR: 'it returns false'. Refute it at one input. -/
def bisectRanksWrong : ChangeSpec := { name := "bisectRanks", fn := fun _ => fun
  | [d1, d2] => { results := [.lit (.bool false)], args := [d1, d2] }
  | _ => none }
def BisectRanksWrongFalsely : Prop := bisectRanksRow.holds Try.pinned (OpenSpec.ofChange bisectRanksWrong)

/-- 'punnetlaw17.BisectSpans': WHATEVER THE INPUT: true; the input reads as it did. -/
def bisectSpansSpec : ChangeSpec := { name := "bisectSpans", fn := fun _ => fun
  | [d1, d2] => { results := [.lit (.bool true)], args := [d1, d2] }
  | _ => none }
def bisectSpansRow : OpenClaim := { program := "ytmjfnifdgneooaa", sum := "a7a5e2cc1a7e16a7a6b2af98fa136c9172ede2736b125b26ec1f2e8e9256c258", func := "punnet/punnetlaw17.BisectSpans", spec := "bisectSpans", unfollowed := true, recurses := true, apart := false }
def BisectSpansSaid : Prop := bisectSpansRow.holds Try.pinned (OpenSpec.ofChange bisectSpansSpec)

/-- ITS FALSE NEIGHBOUR: 'it returns false'. Refute it at one input. -/
def bisectSpansWrong : ChangeSpec := { name := "bisectSpans", fn := fun _ => fun
  | [d1, d2] => { results := [.lit (.bool false)], args := [d1, d2] }
  | _ => none }
def BisectSpansWrongFalsely : Prop := bisectSpansRow.holds Try.pinned (OpenSpec.ofChange bisectSpansWrong)

/-- 'punnetlaw17.BisectParts': WHATEVER THE INPUT: true; the input reads as it did. -/
def bisectPartsSpec : ChangeSpec := { name := "bisectParts", fn := fun _ => fun
  | [d1, d2] => { results := [.lit (.bool true)], args := [d1, d2] }
  | _ => none }
def bisectPartsRow : OpenClaim := { program := "ytmjfnifdgneooaa", sum := "a7a5e2cc1a7e16a7a6b2af98fa136c9172ede2736b125b26ec1f2e8e9256c258", func := "punnet/punnetlaw17.BisectParts", spec := "bisectParts", unfollowed := true, recurses := true, apart := false }
def BisectPartsSaid : Prop := bisectPartsRow.holds Try.pinned (OpenSpec.ofChange bisectPartsSpec)

/-- ITS FALSE NEIGHBOUR: 'it returns false'. Refute it at one input. -/
def bisectPartsWrong : ChangeSpec := { name := "bisectParts", fn := fun _ => fun
  | [d1, d2] => { results := [.lit (.bool false)], args := [d1, d2] }
  | _ => none }
def BisectPartsWrongFalsely : Prop := bisectPartsRow.holds Try.pinned (OpenSpec.ofChange bisectPartsWrong)

/-- 'punnetlaw17.BisectNear': WHATEVER THE INPUT: true; the input reads as it did. -/
def bisectNearSpec : ChangeSpec := { name := "bisectNear", fn := fun _ => fun
  | [d1, d2] => { results := [.lit (.bool true)], args := [d1, d2] }
  | _ => none }
def bisectNearRow : OpenClaim := { program := "ytmjfnifdgneooaa", sum := "a7a5e2cc1a7e16a7a6b2af98fa136c9172ede2736b125b26ec1f2e8e9256c258", func := "punnet/punnetlaw17.BisectNear", spec := "bisectNear", unfollowed := true, recurses := true, apart := false }
def BisectNearSaid : Prop := bisectNearRow.holds Try.pinned (OpenSpec.ofChange bisectNearSpec)

/-- ITS FALSE NEIGHBOUR: 'it returns false'. Refute it at one input. -/
def bisectNearWrong : ChangeSpec := { name := "bisectNear", fn := fun _ => fun
  | [d1, d2] => { results := [.lit (.bool false)], args := [d1, d2] }
  | _ => none }
def BisectNearWrongFalsely : Prop := bisectNearRow.holds Try.pinned (OpenSpec.ofChange bisectNearWrong)

/-- 'punnetlaw18.BfsSearches': WHATEVER THE INPUT: true; the input reads as it did. -/
def bfsSearchesSpec : ChangeSpec := { name := "bfsSearches", fn := fun _ => fun
  | [d1, d2] => { results := [.lit (.bool true)], args := [d1, d2] }
  | _ => none }
def bfsSearchesRow : OpenClaim := { program := "ytmjfnifdgneooaa", sum := "a7a5e2cc1a7e16a7a6b2af98fa136c9172ede2736b125b26ec1f2e8e9256c258", func := "punnet/punnetlaw18.BfsSearches", spec := "bfsSearches", unfollowed := true, recurses := true, apart := false }
def BfsSearchesSaid : Prop := bfsSearchesRow.holds Try.pinned (OpenSpec.ofChange bfsSearchesSpec)

/-- ITS FALSE NEIGHBOUR: 'it returns false'. Refute it at one input. -/
def bfsSearchesWrong : ChangeSpec := { name := "bfsSearches", fn := fun _ => fun
  | [d1, d2] => { results := [.lit (.bool false)], args := [d1, d2] }
  | _ => none }
def BfsSearchesWrongFalsely : Prop := bfsSearchesRow.holds Try.pinned (OpenSpec.ofChange bfsSearchesWrong)

/-- 'punnetlaw18.BfsPlaces': WHATEVER THE INPUT: true; the input reads as it did. -/
def bfsPlacesSpec : ChangeSpec := { name := "bfsPlaces", fn := fun _ => fun
  | [d1, d2] => { results := [.lit (.bool true)], args := [d1, d2] }
  | _ => none }
def bfsPlacesRow : OpenClaim := { program := "ytmjfnifdgneooaa", sum := "a7a5e2cc1a7e16a7a6b2af98fa136c9172ede2736b125b26ec1f2e8e9256c258", func := "punnet/punnetlaw18.BfsPlaces", spec := "bfsPlaces", unfollowed := true, recurses := true, apart := false }
def BfsPlacesSaid : Prop := bfsPlacesRow.holds Try.pinned (OpenSpec.ofChange bfsPlacesSpec)

/-- ITS FALSE NEIGHBOUR: 'it returns false'. Refute it at one input. -/
def bfsPlacesWrong : ChangeSpec := { name := "bfsPlaces", fn := fun _ => fun
  | [d1, d2] => { results := [.lit (.bool false)], args := [d1, d2] }
  | _ => none }
def BfsPlacesWrongFalsely : Prop := bfsPlacesRow.holds Try.pinned (OpenSpec.ofChange bfsPlacesWrong)

/-- 'punnetlaw18.BfsHeap': WHATEVER THE INPUT: true; the input reads as it did. -/
def bfsHeapSpec : ChangeSpec := { name := "bfsHeap", fn := fun _ => fun
  | [d1, d2] => { results := [.lit (.bool true)], args := [d1, d2] }
  | _ => none }
def bfsHeapRow : OpenClaim := { program := "ytmjfnifdgneooaa", sum := "a7a5e2cc1a7e16a7a6b2af98fa136c9172ede2736b125b26ec1f2e8e9256c258", func := "punnet/punnetlaw18.BfsHeap", spec := "bfsHeap", unfollowed := true, recurses := true, apart := false }
def BfsHeapSaid : Prop := bfsHeapRow.holds Try.pinned (OpenSpec.ofChange bfsHeapSpec)

/-- ITS FALSE NEIGHBOUR: 'it returns false'. Refute it at one input. -/
def bfsHeapWrong : ChangeSpec := { name := "bfsHeap", fn := fun _ => fun
  | [d1, d2] => { results := [.lit (.bool false)], args := [d1, d2] }
  | _ => none }
def BfsHeapWrongFalsely : Prop := bfsHeapRow.holds Try.pinned (OpenSpec.ofChange bfsHeapWrong)

/-- 'punnetlaw18.BfsOf': WHATEVER THE INPUT: true; the input reads as it did. -/
def bfsOfSpec : ChangeSpec := { name := "bfsOf", fn := fun _ => fun
  | [d1, d2] => { results := [.lit (.bool true)], args := [d1, d2] }
  | _ => none }
def bfsOfRow : OpenClaim := { program := "ytmjfnifdgneooaa", sum := "a7a5e2cc1a7e16a7a6b2af98fa136c9172ede2736b125b26ec1f2e8e9256c258", func := "punnet/punnetlaw18.BfsOf", spec := "bfsOf", unfollowed := true, recurses := true, apart := false }
def BfsOfSaid : Prop := bfsOfRow.holds Try.pinned (OpenSpec.ofChange bfsOfSpec)

/-- ITS FALSE NEIGHBOUR: 'it returns false'. Refute it at one input. -/
def bfsOfWrong : ChangeSpec := { name := "bfsOf", fn := fun _ => fun
  | [d1, d2] => { results := [.lit (.bool false)], args := [d1, d2] }
  | _ => none }
def BfsOfWrongFalsely : Prop := bfsOfRow.holds Try.pinned (OpenSpec.ofChange bfsOfWrong)

/-- 'punnetlaw18.BfsLong': WHATEVER THE INPUT: true; the input reads as it did. -/
def bfsLongSpec : ChangeSpec := { name := "bfsLong", fn := fun _ => fun
  | [d1, d2] => { results := [.lit (.bool true)], args := [d1, d2] }
  | _ => none }
def bfsLongRow : OpenClaim := { program := "ytmjfnifdgneooaa", sum := "a7a5e2cc1a7e16a7a6b2af98fa136c9172ede2736b125b26ec1f2e8e9256c258", func := "punnet/punnetlaw18.BfsLong", spec := "bfsLong", unfollowed := true, recurses := true, apart := false }
def BfsLongSaid : Prop := bfsLongRow.holds Try.pinned (OpenSpec.ofChange bfsLongSpec)

/-- ITS FALSE NEIGHBOUR: 'it returns false'. Refute it at one input. -/
def bfsLongWrong : ChangeSpec := { name := "bfsLong", fn := fun _ => fun
  | [d1, d2] => { results := [.lit (.bool false)], args := [d1, d2] }
  | _ => none }
def BfsLongWrongFalsely : Prop := bfsLongRow.holds Try.pinned (OpenSpec.ofChange bfsLongWrong)

/- THE SECOND FORM. 'bulk': how many values and letters a reading holds, each counted each time it is reached (what is shared counts as often as it is met; a slice's spare places count too). A statement '..UptoSaid' is the law's where the arguments, and the package variables that the reading takes, are together of bulk at most 1048576: NARROWER than '..Said'. Prove '..Said' where nothing that the law and all that it calls make is longer than what came in: it says more and counts as full. Else prove '..UptoSaid'. A law counts once. -/
mutual
def uptoBulk {H : Type} : DataW H → Nat
  | .lit (.string bytes) => bytes.length + 1
  | .lit _ => 1
  | .nil => 1
  | .ptr d => uptoBulk d + 1
  | .slice elems spare => uptoBulkAll elems + uptoBulkAll spare + 1
  | .agg parts => uptoBulkAll parts + 1
  | .iface _ d => uptoBulk d + 1
  | .map entries => uptoBulkEntries entries + 1
  | .held _ => 1
def uptoBulkAll {H : Type} : List (DataW H) → Nat
  | [] => 0
  | d :: r => uptoBulk d + uptoBulkAll r
def uptoBulkEntries {H : Type} : List (Lit × DataW H) → Nat
  | [] => 0
  | x :: r => uptoBulkEntry x + uptoBulkEntries r
def uptoBulkEntry {H : Type} : Lit × DataW H → Nat
  | (.string bytes, d) => bytes.length + uptoBulk d + 1
  | (_, d) => uptoBulk d + 1
 end
def uptoSmall : (H : Type) → List (DataW H) → Bool := fun _ ds => decide (uptoBulkAll ds ≤ 1048576)
def OpenSpec.upto (s : _root_.Go.ChangeSpec) : _root_.Go.OpenSpec := { _root_.Go.OpenSpec.ofChange s with cond := some uptoSmall }

/-- 'punnetlaw17.BisectRanks', WHERE WHAT IT READS IS OF BULK AT MOST 1048576: true; the input reads as it did. -/
def bisectRanksUptoRow : OpenClaim := { program := "ytmjfnifdgneooaa", sum := "a7a5e2cc1a7e16a7a6b2af98fa136c9172ede2736b125b26ec1f2e8e9256c258", func := "punnet/punnetlaw17.BisectRanks", spec := "bisectRanks", unfollowed := true, recurses := true, apart := false, narrowed := true }
def BisectRanksUptoSaid : Prop := bisectRanksUptoRow.holds Try.pinned (OpenSpec.upto bisectRanksSpec)

/-- 'punnetlaw17.BisectSpans', WHERE WHAT IT READS IS OF BULK AT MOST 1048576: true; the input reads as it did. -/
def bisectSpansUptoRow : OpenClaim := { program := "ytmjfnifdgneooaa", sum := "a7a5e2cc1a7e16a7a6b2af98fa136c9172ede2736b125b26ec1f2e8e9256c258", func := "punnet/punnetlaw17.BisectSpans", spec := "bisectSpans", unfollowed := true, recurses := true, apart := false, narrowed := true }
def BisectSpansUptoSaid : Prop := bisectSpansUptoRow.holds Try.pinned (OpenSpec.upto bisectSpansSpec)

/-- 'punnetlaw17.BisectParts', WHERE WHAT IT READS IS OF BULK AT MOST 1048576: true; the input reads as it did. -/
def bisectPartsUptoRow : OpenClaim := { program := "ytmjfnifdgneooaa", sum := "a7a5e2cc1a7e16a7a6b2af98fa136c9172ede2736b125b26ec1f2e8e9256c258", func := "punnet/punnetlaw17.BisectParts", spec := "bisectParts", unfollowed := true, recurses := true, apart := false, narrowed := true }
def BisectPartsUptoSaid : Prop := bisectPartsUptoRow.holds Try.pinned (OpenSpec.upto bisectPartsSpec)

/-- 'punnetlaw17.BisectNear', WHERE WHAT IT READS IS OF BULK AT MOST 1048576: true; the input reads as it did. -/
def bisectNearUptoRow : OpenClaim := { program := "ytmjfnifdgneooaa", sum := "a7a5e2cc1a7e16a7a6b2af98fa136c9172ede2736b125b26ec1f2e8e9256c258", func := "punnet/punnetlaw17.BisectNear", spec := "bisectNear", unfollowed := true, recurses := true, apart := false, narrowed := true }
def BisectNearUptoSaid : Prop := bisectNearUptoRow.holds Try.pinned (OpenSpec.upto bisectNearSpec)

/-- 'punnetlaw18.BfsSearches', WHERE WHAT IT READS IS OF BULK AT MOST 1048576: true; the input reads as it did. -/
def bfsSearchesUptoRow : OpenClaim := { program := "ytmjfnifdgneooaa", sum := "a7a5e2cc1a7e16a7a6b2af98fa136c9172ede2736b125b26ec1f2e8e9256c258", func := "punnet/punnetlaw18.BfsSearches", spec := "bfsSearches", unfollowed := true, recurses := true, apart := false, narrowed := true }
def BfsSearchesUptoSaid : Prop := bfsSearchesUptoRow.holds Try.pinned (OpenSpec.upto bfsSearchesSpec)

/-- 'punnetlaw18.BfsPlaces', WHERE WHAT IT READS IS OF BULK AT MOST 1048576: true; the input reads as it did. -/
def bfsPlacesUptoRow : OpenClaim := { program := "ytmjfnifdgneooaa", sum := "a7a5e2cc1a7e16a7a6b2af98fa136c9172ede2736b125b26ec1f2e8e9256c258", func := "punnet/punnetlaw18.BfsPlaces", spec := "bfsPlaces", unfollowed := true, recurses := true, apart := false, narrowed := true }
def BfsPlacesUptoSaid : Prop := bfsPlacesUptoRow.holds Try.pinned (OpenSpec.upto bfsPlacesSpec)

/-- 'punnetlaw18.BfsHeap', WHERE WHAT IT READS IS OF BULK AT MOST 1048576: true; the input reads as it did. -/
def bfsHeapUptoRow : OpenClaim := { program := "ytmjfnifdgneooaa", sum := "a7a5e2cc1a7e16a7a6b2af98fa136c9172ede2736b125b26ec1f2e8e9256c258", func := "punnet/punnetlaw18.BfsHeap", spec := "bfsHeap", unfollowed := true, recurses := true, apart := false, narrowed := true }
def BfsHeapUptoSaid : Prop := bfsHeapUptoRow.holds Try.pinned (OpenSpec.upto bfsHeapSpec)

/-- 'punnetlaw18.BfsOf', WHERE WHAT IT READS IS OF BULK AT MOST 1048576: true; the input reads as it did. -/
def bfsOfUptoRow : OpenClaim := { program := "ytmjfnifdgneooaa", sum := "a7a5e2cc1a7e16a7a6b2af98fa136c9172ede2736b125b26ec1f2e8e9256c258", func := "punnet/punnetlaw18.BfsOf", spec := "bfsOf", unfollowed := true, recurses := true, apart := false, narrowed := true }
def BfsOfUptoSaid : Prop := bfsOfUptoRow.holds Try.pinned (OpenSpec.upto bfsOfSpec)

/-- 'punnetlaw18.BfsLong', WHERE WHAT IT READS IS OF BULK AT MOST 1048576: true; the input reads as it did. -/
def bfsLongUptoRow : OpenClaim := { program := "ytmjfnifdgneooaa", sum := "a7a5e2cc1a7e16a7a6b2af98fa136c9172ede2736b125b26ec1f2e8e9256c258", func := "punnet/punnetlaw18.BfsLong", spec := "bfsLong", unfollowed := true, recurses := true, apart := false, narrowed := true }
def BfsLongUptoSaid : Prop := bfsLongUptoRow.holds Try.pinned (OpenSpec.upto bfsLongSpec)

end Rows
end Go.Proofs.Ytmjfnifdgneooaa
