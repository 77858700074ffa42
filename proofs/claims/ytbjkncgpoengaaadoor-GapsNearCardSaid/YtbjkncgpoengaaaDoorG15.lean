/- The law GapsNear, for every input. -/
import Derived.Test.YtbjkncgpoengaaaDoorG14
import Derived.Test.YtbjkncgpoengaaaDoorK2
namespace Go.Proofs.YtbjkncgpoengaaaDoor.G15
open Go.RowKit Go.Proofs.YtbjkncgpoengaaaDoorW.PrintWords G0 G10 G11 G14
set_option linter.unusedVariables false
theorem law (n : Int) (wn : (Lit.int .i64 n).wf = true) (A : Option Addr) (c : Nat) (l : List Cal) {W0 : World} (g : Kd.C kAct W0 A l.length l) (a : Int) (wa : (Lit.int .i64 a).wf = true) (b : Int) (wb : (Lit.int .i64 b).wf = true) (W : World) (hT : Tb W) (hW : W = W0 := by rfl) :
    Calls Tryd.prog 10 #[.int .i64 n, .slice A l.length c, .agg #[.int .i64 a, .int .i64 b]] W fun e w' => e = .returned (.bool true) ∧ Below W.heap.size W w' := by
  subst hW
  by_cases h : n < 1 ∨ 200 < n ∨ 100 < l.length
  · exact near_no n a b A c l W hT h
  · obtain ⟨m, rfl⟩ := Int.eq_ofNat_of_zero_le (show 0 ≤ n by omega)
    exact near_yes m a b A c l W hT g (by omega) (by omega) (by omega)
end Go.Proofs.YtbjkncgpoengaaaDoor.G15
