-- PRINTED BY print.sh 35421559b90ae4d0a3588c463048766b98c2df88dd9212a6774a882060cdf62d: not written by this session
import Derived.Test.YtmjfnifdgneooaaProg
import Derived.Below
import Derived.Deep.Draws
import Derived.Deep.AppendLies
import Derived.Maps.AppendAt
import Derived.OwnWalk
import Derived.Laws.BytesArg
import Derived.Laws.MakeOwn
import Derived.Laws.OwnMore
import Derived.Deep.OwnRows
import Derived.Tactics
import Derived.Lib.ConvBytes
import Derived.Laws.Slices
import Derived.WalkKit
import Derived.KernelRfl
import Derived.RowKit3
import Derived.Deep.LoopGhost
import Derived.Deep.QuietTactic
import Derived.BigQuiet
import Derived.WideLaws
import Derived.Deep.DeepCutAuto
import Derived.Deep.CutBlock
import Derived.Deep.RegionHeld3
import Derived.Laws.Rows
import Derived.Lib.AppendStr
import Derived.ArgAppend
import Derived.Laws.IdiomCopy
import Derived.OrdersHeld
import Derived.Laws.BitsLemmas
import Derived.RowKit
import Derived.Test.YtmjfnifdgneooaaWWords
import Derived.Test.YtmjfnifdgneooaaWLast
import Derived.Test.YtmjfnifdgneooaaWTab
import Derived.Test.YtmjfnifdgneooaaWFour
import Derived.Test.YtmjfnifdgneooaaWQPut
import Derived.Test.YtmjfnifdgneooaaWApart
import Derived.Test.YtmjfnifdgneooaaWArr
import Derived.Test.YtmjfnifdgneooaaWZeros
import Derived.Test.YtmjfnifdgneooaaWFoot
import Derived.Test.YtmjfnifdgneooaaWKept
import Derived.Test.YtmjfnifdgneooaaWShare
import Derived.Test.YtmjfnifdgneooaaWN
import Derived.Test.YtmjfnifdgneooaaWFootNe
import Derived.Test.YtmjfnifdgneooaaWAt
import Derived.Test.YtmjfnifdgneooaaWEqStruct
import Derived.Test.YtmjfnifdgneooaaWRepsOne
import Derived.Test.YtmjfnifdgneooaaWInv
import Derived.Test.YtmjfnifdgneooaaWInvWords
import Derived.Test.YtmjfnifdgneooaaWGuard
import Derived.Test.YtmjfnifdgneooaaWNEv
import Derived.Test.YtmjfnifdgneooaaWMore
namespace Go.Proofs.Ytmjfnifdgneooaa.PBfsSearches
open Go.RowKit Go.Proofs.YtmjfnifdgneooaaW.PrintWords Go.Proofs.YtmjfnifdgneooaaW.PrintLast Go.Proofs.YtmjfnifdgneooaaW.PrintMore
attribute [local go_sem] max2_int min2_int max_two min_two max_three min_three max_four min_four   -- for this text's walks alone
set_option linter.unusedVariables false
set_option linter.unusedSimpArgs false



def errW : Option Int → Value
  | none => .nilIface
  | some c => .iface 0 (.int .i64 c)
theorem errW_none : errW none = .nilIface := rfl
theorem errW_some (c : Int) : errW (some c) = .iface 0 (.int .i64 c) := rfl

theorem info3 : (Try.prog.info? 3).map (fun i => (i.zero, i.size, i.bytes)) = some (some (.int .i64 0), 1, 8) := by kernel_rfl
-- the values' own types

end Go.Proofs.Ytmjfnifdgneooaa.PBfsSearches
