-- PRINTED BY print.sh 35421559b90ae4d0a3588c463048766b98c2df88dd9212a6774a882060cdf62d: not written by this session
import Derived.Test.YtmjfnifdgneooaaPBfsSearchesx0
import Derived.Test.YtmjfnifdgneooaaPBfsSearchesx1
namespace Go.Proofs.Ytmjfnifdgneooaa.PBfsSearches
open Go.RowKit Go.Proofs.YtmjfnifdgneooaaW.PrintWords Go.Proofs.YtmjfnifdgneooaaW.PrintLast Go.Proofs.YtmjfnifdgneooaaW.PrintMore
attribute [local go_sem] max2_int min2_int max_two min_two max_three min_three max_four min_four   -- for this text's walks alone
set_option linter.unusedVariables false
set_option linter.unusedSimpArgs false

/-! ### punnetref18_Search: function 25 -/
def punnetref18_Search.f : Nat → List Int → Int → Int → Option (Int × Int)
  | 0, _, _, _ => none
  | k + 1, l0, a1, a2 => if a2 ≥ (l0.length : Int) then (some (0, 0)) else (if 0 ≤ a2 then (if a2 < (l0.length : Int) then (if (rd l0 a2) < a1 then ((punnetref18_Search.f k l0 a1 (wrap64 ((wrap64 (2 * a2)) + 2))).bind fun bt131 => ((punnetref18_Order.f k (wrap64 ((wrap64 (2 * a2)) + 1)) (l0.length : Int)).bind fun t133 => (some (wrap64 ((wrap64 (bt131.1 + 1)) + (t133.length : Int)), wrap64 (bt131.2 + 1))))) else ((punnetref18_Search.f k l0 a1 (wrap64 ((wrap64 (2 * a2)) + 1))).bind fun bt136 => (some (bt136.1, wrap64 (bt136.2 + 1))))) else (none)) else (none))
theorem punnetref18_Search.mono_l : ∀ k, (∀ y0 y1 y2, LeO (punnetref18_Search.f k y0 y1 y2) (punnetref18_Search.f (k + 1) y0 y1 y2))
  | 0 => fun _ _ _ r h => by simp [punnetref18_Search.f] at h
  | k + 1 => by
    have ih0 := punnetref18_Search.mono_l k
    · intro y0 y1 y2
      unfold punnetref18_Search.f
      repeat' first
      | (with_reducible exact ih0 _ _ _)
      | (with_reducible exact punnetref18_Order.mono _ _ _)
      | (with_reducible exact LeO.refl _)
      | (with_reducible exact LeO.none _)
      | (with_reducible refine LeO.ite ?_ ?_)
      | (with_reducible refine LeO.bind ?_ (fun _ => ?_))
      | exact ih0 _ _ _
      | exact punnetref18_Order.mono _ _ _
      | exact LeO.none _
      | refine LeO.ite ?_ ?_
      | refine LeO.bind ?_ (fun _ => ?_)
theorem punnetref18_Search.mono : ∀ a0 a1 a2 k, LeO (punnetref18_Search.f k a0 a1 a2) (punnetref18_Search.f (k + 1) a0 a1 a2) := by
  intro a0 a1 a2 k
  have ih0 := punnetref18_Search.mono_l k
  exact ih0 a0 a1 a2
set_option maxHeartbeats 8000000 in
set_option maxRecDepth 100000 in
theorem punnetref18_Search.calls (k : Nat) : ∀ (A0 : Option Addr) (c0 : Nat) (l0 : List Int) (a1 : Int) (a2 : Int) (r1 : Int) (r2 : Int) (w : World) (hr0 : Kd.C (Kd.int .i64) w A0 l0.length l0) (hc0 : l0.length ≤ c0) (h : punnetref18_Search.f k l0 a1 a2 = some (r1, r2)),
    Calls Try.prog 25 #[.slice A0 l0.length c0, .int .i64 a1, .int .i64 a2] w fun e w' => e = .returned (.tuple #[.int .i64 r1, .int .i64 r2]) ∧ Below w.heap.size w w' := by
  induction k using Nat.strongRecOn with
  | _ k ih =>
  intro A0 c0 l0 a1 a2 r1 r2 w hr0 hc0 h
  cases k with
  | zero => exact absurd h (by simp [punnetref18_Search.f])
  | succ k =>
  simp only [punnetref18_Search.f] at h
  have HR0 := Aside0.mk hr0
  have HC0 := Aside0.mk hc0
  clear hr0 hc0
  have HB := Aside0.mk (Below.refl w.heap.size w)
  have H : (if a2 ≥ (l0.length : Int) then (some (0, 0)) else (if 0 ≤ a2 then (if a2 < (l0.length : Int) then (if (rd l0 a2) < a1 then ((punnetref18_Search.f k l0 a1 (wrap64 ((wrap64 (2 * a2)) + 2))).bind fun bt131 => ((punnetref18_Order.f k (wrap64 ((wrap64 (2 * a2)) + 1)) (l0.length : Int)).bind fun t133 => (some (wrap64 ((wrap64 (bt131.1 + 1)) + (t133.length : Int)), wrap64 (bt131.2 + 1))))) else ((punnetref18_Search.f k l0 a1 (wrap64 ((wrap64 (2 * a2)) + 1))).bind fun bt136 => (some (bt136.1, wrap64 (bt136.2 + 1))))) else (none)) else (none))) = some (r1, r2) := h
  clear h
  by_cases c4 : a2 ≥ (l0.length : Int)
  · rw [if_pos c4] at H
    have c4b0 : decide ((l0.length : Int) ≤ a2) = true := decide_eq_true c4
    clear c4
    simp only [Option.some.injEq, Prod.mk.injEq] at H
    obtain ⟨rfl, rfl⟩ := H
    go_enter Try.func25, Try.ntmps25
    go_wp2
    go_ret2
    exact ⟨by first | rfl | (simp [errW_none, errW_some] <;> rfl) | (simp [*, errW_none, errW_some] <;> rfl), by repeat (first | (with_reducible first | exact HB.out | apply below_alloc | apply pw_below_drewN | apply below_drew1) | exact HB.out)⟩
  · rw [if_neg c4] at H
    have c4b0 : decide ((l0.length : Int) ≤ a2) = false := decide_eq_false c4
    clear c4
    by_cases c5 : 0 ≤ a2
    · rw [if_pos c5] at H
      have c5b0 : decide (0 ≤ a2) = true := decide_eq_true c5
      clear c5
      by_cases c6 : a2 < (l0.length : Int)
      · rw [if_pos c6] at H
        have c6b0 : decide (a2 < (l0.length : Int)) = true := decide_eq_true c6
        clear c6
        by_cases c7 : (rd l0 a2) < a1
        · rw [if_pos c7] at H
          have c7b0 : decide ((rd l0 a2) < a1) = true := decide_eq_true c7
          clear c7
          replace H := Option.bind_eq_some_iff.mp H
          obtain ⟨⟨t131, t132⟩, A80, H⟩ := H
          replace H : ((punnetref18_Order.f k (wrap64 ((wrap64 (2 * a2)) + 1)) (l0.length : Int)).bind fun t133 => (some (wrap64 ((wrap64 (t131 + 1)) + (t133.length : Int)), wrap64 (t132 + 1)))) = some (r1, r2) := H
          have A8 := Aside0.mk A80
          clear A80
          replace H := Option.bind_eq_some_iff.mp H
          obtain ⟨t133, A90, H⟩ := H
          replace H : (some (wrap64 ((wrap64 (t131 + 1)) + (t133.length : Int)), wrap64 (t132 + 1))) = some (r1, r2) := H
          have A9 := Aside0.mk A90
          clear A90
          simp only [Option.some.injEq, Prod.mk.injEq] at H
          obtain ⟨rfl, rfl⟩ := H
          have p130 : 0 ≤ (a2 : Int) := of_decide_eq_true (by first | (with_reducible assumption) | assumption)
          have q130 : a2 < (l0.length : Int) := of_decide_eq_true (by first | (with_reducible assumption) | assumption)
          obtain ⟨ad130, e130, hx130_0⟩ := Kd.at_int HR0.out a2 p130 q130
          cases e130
          replace p130 := eq_true p130
          replace q130 := eq_true q130
          go_enter Try.func25, Try.ntmps25
          go_wp2_with (first | ((with_reducible refine gate_callee (f := 25) rfl ?_); refine goesL_ (some 28) rfl rfl Try.func25 (by kernel_rfl) rfl #[.slice (some ad130) l0.length c0, .int .i64 a1, .int .i64 (wrap64 ((wrap64 (2 * a2)) + 2))] rfl (by (try simp only [List.map_toArray, List.map_cons, List.map_nil]); first | done | rfl | (simp only [List.length_drop, List.length_take]; rfl)) ?_; (with_reducible refine (ih k (by omega) _ _ l0 a1 (wrap64 ((wrap64 (2 * a2)) + 2)) t131 t132 _ ?side1 ?side2 A8.out).mono ?_); (case side1 => repeat (first | exact HR0.out | (with_reducible refine Kd.C_alloc ?_ _) | (with_reducible refine Kd.C_drewN ?_ _) | (with_reducible refine Kd.C_drew ?_))); (case side2 => exact HC0.out); rintro e w10 ⟨rfl, hb⟩; refine ⟨_, rfl, ?_⟩; have n0_ := Aside0.mk (below_step (by repeat (first | (with_reducible first | exact HB.out | apply below_alloc | apply pw_below_drewN | apply below_drew1) | exact HB.out)) hb); clear HB; have HB := n0_; clear n0_; (try clear hb); (try clear hb2); (try clear hk); (try clear hi)) | ((with_reducible refine gate_callee (f := 28) rfl ?_); refine goesL_ (some 38) rfl rfl Try.func28 (by kernel_rfl) rfl #[.int .i64 (wrap64 ((wrap64 (2 * a2)) + 1)), .int .i64 (l0.length : Int)] rfl (by (try simp only [List.map_toArray, List.map_cons, List.map_nil]); first | done | rfl | (simp only [List.length_drop, List.length_take]; rfl)) ?_; (with_reducible refine (punnetref18_Order.calls k (wrap64 ((wrap64 (2 * a2)) + 1)) (l0.length : Int) t133 _ A9.out).mono ?_); rintro e w11 ⟨v134, rfl, ho0, hb⟩; refine ⟨_, rfl, ?_⟩; have n0_ := Aside0.mk (Kd.R_lower ho0 (below_size (by repeat (first | (with_reducible first | exact HB.out | apply below_alloc | apply pw_below_drewN | apply below_drew1) | exact HB.out)))); have n1_ := Aside0.mk (below_step (by repeat (first | (with_reducible first | exact HB.out | apply below_alloc | apply pw_below_drewN | apply below_drew1) | exact HB.out)) hb); clear HB; have HO135 := n0_; have HB := n1_; clear n0_ n1_; (try clear hb); (try clear hb2); (try clear hk); (try clear hi); (try clear ho0); obtain ⟨Ao12, co12, eo12⟩ := Kd.R_slice HO135.out; subst eo12))
          go_ret2
          exact ⟨by first | rfl | (simp [errW_none, errW_some] <;> rfl) | (simp [*, errW_none, errW_some] <;> rfl), by repeat (first | (with_reducible first | exact HB.out | apply below_alloc | apply pw_below_drewN | apply below_drew1) | exact HB.out)⟩
        · rw [if_neg c7] at H
          have c7b0 : decide ((rd l0 a2) < a1) = false := decide_eq_false c7
          clear c7
          replace H := Option.bind_eq_some_iff.mp H
          obtain ⟨⟨t136, t137⟩, A130, H⟩ := H
          replace H : (some (t136, wrap64 (t137 + 1))) = some (r1, r2) := H
          have A13 := Aside0.mk A130
          clear A130
          simp only [Option.some.injEq, Prod.mk.injEq] at H
          obtain ⟨rfl, rfl⟩ := H
          have p130 : 0 ≤ (a2 : Int) := of_decide_eq_true (by first | (with_reducible assumption) | assumption)
          have q130 : a2 < (l0.length : Int) := of_decide_eq_true (by first | (with_reducible assumption) | assumption)
          obtain ⟨ad130, e130, hx130_0⟩ := Kd.at_int HR0.out a2 p130 q130
          cases e130
          replace p130 := eq_true p130
          replace q130 := eq_true q130
          go_enter Try.func25, Try.ntmps25
          go_wp2_with (first | ((with_reducible refine gate_callee (f := 25) rfl ?_); refine goesL_ (some 49) rfl rfl Try.func25 (by kernel_rfl) rfl #[.slice (some ad130) l0.length c0, .int .i64 a1, .int .i64 (wrap64 ((wrap64 (2 * a2)) + 1))] rfl (by (try simp only [List.map_toArray, List.map_cons, List.map_nil]); first | done | rfl | (simp only [List.length_drop, List.length_take]; rfl)) ?_; (with_reducible refine (ih k (by omega) _ _ l0 a1 (wrap64 ((wrap64 (2 * a2)) + 1)) t136 t137 _ ?side1 ?side2 A13.out).mono ?_); (case side1 => repeat (first | exact HR0.out | (with_reducible refine Kd.C_alloc ?_ _) | (with_reducible refine Kd.C_drewN ?_ _) | (with_reducible refine Kd.C_drew ?_))); (case side2 => exact HC0.out); rintro e w14 ⟨rfl, hb⟩; refine ⟨_, rfl, ?_⟩; have n0_ := Aside0.mk (below_step (by repeat (first | (with_reducible first | exact HB.out | apply below_alloc | apply pw_below_drewN | apply below_drew1) | exact HB.out)) hb); clear HB; have HB := n0_; clear n0_; (try clear hb); (try clear hb2); (try clear hk); (try clear hi)))
          go_ret2
          exact ⟨by first | rfl | (simp [errW_none, errW_some] <;> rfl) | (simp [*, errW_none, errW_some] <;> rfl), by repeat (first | (with_reducible first | exact HB.out | apply below_alloc | apply pw_below_drewN | apply below_drew1) | exact HB.out)⟩
      · rw [if_neg c6] at H
        exact absurd H (by simp)
    · rw [if_neg c5] at H
      exact absurd H (by simp)

-- NOT PRINTED: function 7 (punnetlaw18_BfsSearches)

end Go.Proofs.Ytmjfnifdgneooaa.PBfsSearches
