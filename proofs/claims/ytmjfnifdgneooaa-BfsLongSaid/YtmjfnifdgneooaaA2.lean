/- Walk of the law's examples: they hold; no conditions. -/
import Derived.Test.YtmjfnifdgneooaaB2
namespace Go.Proofs.Ytmjfnifdgneooaa.A2
open Go.RowKit Go.Proofs.YtmjfnifdgneooaaW.PrintWords Go.Proofs.YtmjfnifdgneooaaW.PrintLast Go.Proofs.YtmjfnifdgneooaaW.PrintMore B1 A1 B2
set_option linter.unusedVariables false
set_option linter.unusedSimpArgs false

/-- A list that was just made of whole numbers. -/
theorem lit_reads (w : World) (l : List Int) (h : l.length ≤ 1000) : Kd.C (Kd.int .i64) (w.alloc (.cells (l.map (Value.int .i64)).toArray 3)) (some ⟨w.heap.size, 0, none⟩) l.length l := by
  refine ⟨rfl, by omega, fun _ => ⟨_, rfl, fun j p hp => ⟨[.int .i64 p], rfl, rfl, fun i u hu => ?_⟩⟩⟩
  obtain ⟨rfl, rfl⟩ : i = 0 ∧ u = .int .i64 p := by
    cases i with
    | zero => exact ⟨rfl, by simpa using hu.symm⟩
    | succ i => simp at hu
  rw [add_plain]
  refine (cell_of_row (w.alloc (.cells (l.map (Value.int .i64)).toArray 3)) w.heap.size _ _ 3 (0, 0) (blk_new w _)).trans ?_
  show (List.map (Value.int .i64) l).toArray[j * 1 + 0]? = _
  simp [hp]

set_option maxHeartbeats 1000000 in
theorem awake_any (w : World) : Calls Try.prog 12 #[] w fun e w' => e = .returned (.bool true) ∧ Below w.heap.size w w' := by
  have HR := Aside0.mk (lit_reads w [2, 4, 6] (by decide))
  have HB := Aside0.mk (below_alloc (Below.refl w.heap.size w) (.cells ([2, 4, 6].map (Value.int .i64)).toArray 3))
  go_enter Try.func12, Try.ntmps12
  go_wp2_with fail
  refine (rank_yes _ _ [2, 4, 6] 5 _ HR.out (by decide) (by decide) rfl).mono ?_
  rintro e w1 ⟨rfl, hw1⟩
  have H1 := Aside0.mk (Kd.C_below HR.out hw1.below); have B1 := Aside0.mk (below_step HB.out hw1.below); clear HR HB hw1
  go_wp2_with fail
  refine (rank_yes _ _ [2, 4, 6] 7 _ H1.out (by decide) (by decide) rfl).mono ?_
  rintro e w2 ⟨rfl, hw1⟩
  have H2 := Aside0.mk (Kd.C_below H1.out hw1.below); have B2 := Aside0.mk (below_step B1.out hw1.below); clear H1 B1 hw1
  go_wp2_with fail
  refine (near_yes _ _ [2, 4, 6] 5 _ H2.out (by decide) (by decide) rfl (by decide)).mono ?_
  rintro e w3 ⟨rfl, hw1⟩
  have H3 := Aside0.mk (Kd.C_below H2.out hw1.below); have B3 := Aside0.mk (below_step B2.out hw1.below); clear H2 B2 hw1
  go_wp2_with fail
  refine (near_yes _ _ [2, 4, 6] 100 _ H3.out (by decide) (by decide) rfl (by decide)).mono ?_
  rintro e w4 ⟨rfl, hw1⟩
  have H4 := Aside0.mk (Kd.C_below H3.out hw1.below); have B4 := Aside0.mk (below_step B3.out hw1.below); clear H3 B3 hw1
  go_wp2_with fail
  refine (span_yes _ _ [2, 4, 6] 3 6 _ H4.out (by decide) (by decide) rfl (by decide)).mono ?_
  rintro e w5 ⟨rfl, hw1⟩
  have B5 := Aside0.mk (below_step B4.out hw1.below); clear H4 B4 hw1
  rw [show rankN [2, 4, 6] 5 = 2 by decide, show comparedN [2, 4, 6] 5 = 2 by decide, show rankN [2, 4, 6] 7 = 3 by decide, show nearN [2, 4, 6] 5 = 1 by decide, show nearN [2, 4, 6] 100 = 2 by decide, show rankN [2, 4, 6] 3 = 1 by decide, show rankN [2, 4, 6] 6 = 2 by decide]
  go_wp2
  go_ret
  exact ⟨rfl, B5.out⟩
end Go.Proofs.Ytmjfnifdgneooaa.A2
