/- The door of this seat: what the listed tables give the walks (the table of 64 small numbers lies in its variable), and that the door's own heap meets the condition. -/
import Derived.Test.YtbjkncgpoengaaaDoorRows
import Derived.Test.YtbjkncgpoengaaaDoorG0
import Derived.ProofKit
import Derived.LaidMore
import Derived.OpenShut
import Derived.Stop.Joined
import Derived.WalkKit
namespace Go.Proofs.YtbjkncgpoengaaaDoor.D1
open Go.ChangeShapes Go.WideShapes Go.ChangeAt Go.WideMaps Go.WideElems Go.RowKit Go.Proofs.YtbjkncgpoengaaaDoorW.PrintWords G0 G1
set_option linter.unusedVariables false

def laid2 {H : Type} : List (String × DataW H) := [("math/bits.deBruijn64tab", Rows.laid_math_bits_deBruijn64tab)]
theorem g64 : Tryd.prog.globalNamed "math/bits.deBruijn64tab" = some 0 := by kernel_rfl
theorem t64 : (Tryd.prog.globals[0]?).map (·.type) = some 109 := by kernel_rfl

/-- The door's own heap meets the condition: three closed facts. -/
theorem door_met (os : Os) (args : Array Value) : laidMetH Tryd.prog laid2 ((World.doorLaid Tryd.prog 400 os).forCall (fun _ _ => 0) ⟨#[], args, []⟩).memory :=
  laidMetH_of_parts3 (fuel := 8) (laidMet_of_run' 8 (by kernel_rfl) (by kernel_rfl)) (by kernel_rfl) (by kernel_rfl)

theorem of_laid {W : World} (h : laidMetH Tryd.prog laid2 W) : Tb W := by
  rw [MakeChecks.laidMetH_plain _ _ _ (by kernel_rfl)] at h
  obtain ⟨ps, ⟨g1, t1, cs1, f1, p1, q1, hg1, ht1, hv1, hd1, _, _⟩, _, _⟩ := h
  obtain rfl := Option.some.inj (g64.symm.trans hg1)
  obtain rfl := Option.some.inj (t64.symm.trans ht1)
  obtain ⟨xs, m1, rfl, hx1, hlen, hn3, hel⟩ := DataW.trod_array Tryd.underlying109 hd1
  have c5 : Tryd.prog.cellsOf 5 = 1 := by kernel_rfl
  have c64 : Tryd.prog.cellsOf 109 = 64 := by kernel_rfl
  rw [c64] at hlen
  simp only [Prod.mk.injEq] at hx1
  have hxs : xs.map (·.1) = tab64.map (fun k => DataW.lit (.int .u8 k)) := by
    have := hx1.1
    simp only [Rows.laid_math_bits_deBruijn64tab, DataW.agg.injEq] at this
    exact this.symm.trans rfl
  have hcell : ∀ i, i < tab64.length → W.cell? ((⟨0, 0, none⟩ : Addr).add i) = some (.int .u8 (tab64.getD i 0)) := by
    intro i hi
    have hi2 : i < 64 := hi
    have h := hel i hi2
    rw [c5, List.getElem?_eq_getElem (show i < xs.length by omega)] at h
    obtain ⟨x, e0, e1, w0⟩ := DataW.trod_int Tryd.underlying5 h
    have hm : (xs.map (·.1))[i]? = (tab64.map (fun k => DataW.lit (.int .u8 k)))[i]? := by rw [hxs]
    rw [List.getElem?_map, List.getElem?_map, List.getElem?_eq_getElem (show i < xs.length by omega), List.getElem?_eq_getElem hi] at hm
    rw [e1] at hm
    simp only [Option.map_some, Option.some.injEq, DataW.lit.injEq, Lit.int.injEq, true_and] at hm
    rw [Nat.mul_one] at e0
    have hc : cs1[i]? = some (.int .u8 x) := by
      have h2 : (List.take 1 (List.drop i cs1.toList))[0]? = cs1.toList[i]? := by simp [List.getElem?_drop]
      rw [e0] at h2
      rw [← Array.getElem?_toList, ← h2]
      rfl
    have e2 : (⟨0, 0, none⟩ : Addr).add i = ⟨0, i, none⟩ := by unfold Addr.add; split <;> simp_all
    rw [e2, World.var?_cell hg1 hv1 i, hc, hm, List.getD_eq_getElem?_getD, List.getElem?_eq_getElem hi]
    rfl
  exact Kd.C_of_reads (d := (0 : Int)) (h1 := fun _ => rfl) ⟨rfl, by decide, fun _ => ⟨⟨0, 0, none⟩, rfl, fun i hi => hcell i hi⟩⟩
end Go.Proofs.YtbjkncgpoengaaaDoor.D1
