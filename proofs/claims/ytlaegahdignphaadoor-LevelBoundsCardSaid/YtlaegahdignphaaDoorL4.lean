/- The laws LevelShapes, LevelWindows, LevelBounds walked: they return true; whatever the numbers. -/
import Derived.Test.YtlaegahdignphaaDoorL3
namespace Go.Proofs.YtlaegahdignphaaDoor.L4
open Go.RowKit Go.Proofs.YtlaegahdignphaaDoorW.PrintWords Go.Proofs.YtlaegahdignphaaDoorW.PrintLast Go.Proofs.YtlaegahdignphaaDoorW.PrintMore Q1 L1 L3
set_option linter.unusedVariables false
set_option linter.unusedSimpArgs false

theorem w64_of {x : Int} (h : (Lit.int .i64 x).wf = true) : -9223372036854775808 ≤ x ∧ x ≤ 9223372036854775807 := by
  simp [Lit.wf, IntKind.min, IntKind.max, IntKind.signed, IntKind.bits] at h
  exact ⟨by omega, by omega⟩

set_option maxHeartbeats 1000000 in
theorem shapes_any (s : Int) (ws : (Lit.int .i64 s).wf = true) (q : Int) (wq : (Lit.int .i64 q).wf = true) (W : World) (hT : Tb W) : Calls Tryd.prog 4 #[.int .i64 s, .int .i64 q] W fun e w' => e = .returned (.bool true) ∧ Below W.heap.size W w' := by
  have HT := Aside0.mk hT
  have HB := Aside0.mk (Below.refl W.heap.size W)
  clear hT ws wq
  have hr := fun w => refHeight_any s w
  have hh := fun w => height_any s w
  have hs := fun w => segs_any s w
  have hm := fun w => may_any s w
  unfold refH at hr
  unfold sgN cpE at hs
  cases hc : capB s with
  | false =>
    have h0 : hgt s = 0 := by
      have := of_decide_eq_false hc
      unfold hgt
      repeat rw [if_neg (by omega)]
    simp only [hc, h0, Bool.false_eq_true, if_false] at hr hh hs hm
    clear hc h0
    cases hq : slotB q with
    | true =>
      have hqd := of_decide_eq_true hq
      have hg := fun w => seg_any q w
      simp only [hq, if_true] at hg
      have c5 : decide (q < 0) = false := decide_eq_false (by omega)
      have c6 : decide (q > 4095) = false := decide_eq_false (by omega)
      have c7 : q.tdiv 8 = q / 8 := Int.tdiv_eq_ediv_of_nonneg hqd.1
      have c8 : IntKind.i64.wrap (q / 8) = q / 8 := wr64 (by omega) (by omega)
      clear hq hqd
      go_enter Tryd.func4, Tryd.ntmps4
      go_wp2_with fail
      refine (hr _).mono ?_
      rintro e w1 ⟨rfl, hw⟩
      have hb := hw.below
      clear hw
      replace HT := Aside0.mk (Kd.C_below HT.out hb)
      replace HB := Aside0.mk (below_step HB.out hb)
      clear hb
      go_wp2_with fail
      refine (hh _ HT.out).mono ?_
      rintro e w2 ⟨rfl, hw⟩
      have hb := hw.below
      clear hw
      replace HT := Aside0.mk (Kd.C_below HT.out hb)
      replace HB := Aside0.mk (below_step HB.out hb)
      clear hb
      go_wp2_with fail
      refine (hs _).mono ?_
      rintro e w3 ⟨rfl, hw⟩
      have hb := hw.below
      clear hw
      replace HT := Aside0.mk (Kd.C_below HT.out hb)
      replace HB := Aside0.mk (below_step HB.out hb)
      clear hb
      go_wp2_with fail
      refine (hm _).mono ?_
      rintro e w4 ⟨rfl, hw⟩
      have hb := hw.below
      clear hw
      replace HT := Aside0.mk (Kd.C_below HT.out hb)
      replace HB := Aside0.mk (below_step HB.out hb)
      clear hb
      skip
      go_wp2_with fail
      refine (hg _).mono ?_
      rintro e w5 ⟨rfl, hw⟩
      have hb := hw.below
      clear hw
      replace HT := Aside0.mk (Kd.C_below HT.out hb)
      replace HB := Aside0.mk (below_step HB.out hb)
      clear hb
      go_wp2_with fail
      refine (awake_any _ HT.out).mono ?_
      rintro e w6 ⟨rfl, hw⟩
      have hb := hw
      clear hw
      replace HT := Aside0.mk (Kd.C_below HT.out hb)
      replace HB := Aside0.mk (below_step HB.out hb)
      clear hb
      go_wp2
      go_ret
      exact ⟨rfl, HB.out⟩
    | false =>
      have hqd := of_decide_eq_false hq
      have hg := fun w => seg_any q w
      simp only [hq, Bool.false_eq_true, if_false] at hg
      by_cases hq0 : q < 0
      · have c5 : decide (q < 0) = true := decide_eq_true hq0
        clear hq hqd
        go_enter Tryd.func4, Tryd.ntmps4
        go_wp2_with fail
        refine (hr _).mono ?_
        rintro e w7 ⟨rfl, hw⟩
        have hb := hw.below
        clear hw
        replace HT := Aside0.mk (Kd.C_below HT.out hb)
        replace HB := Aside0.mk (below_step HB.out hb)
        clear hb
        go_wp2_with fail
        refine (hh _ HT.out).mono ?_
        rintro e w8 ⟨rfl, hw⟩
        have hb := hw.below
        clear hw
        replace HT := Aside0.mk (Kd.C_below HT.out hb)
        replace HB := Aside0.mk (below_step HB.out hb)
        clear hb
        go_wp2_with fail
        refine (hs _).mono ?_
        rintro e w9 ⟨rfl, hw⟩
        have hb := hw.below
        clear hw
        replace HT := Aside0.mk (Kd.C_below HT.out hb)
        replace HB := Aside0.mk (below_step HB.out hb)
        clear hb
        go_wp2_with fail
        refine (hm _).mono ?_
        rintro e w10 ⟨rfl, hw⟩
        have hb := hw.below
        clear hw
        replace HT := Aside0.mk (Kd.C_below HT.out hb)
        replace HB := Aside0.mk (below_step HB.out hb)
        clear hb
        skip
        go_wp2_with fail
        refine (hg _).mono ?_
        rintro e w11 ⟨rfl, hw⟩
        have hb := hw.below
        clear hw
        replace HT := Aside0.mk (Kd.C_below HT.out hb)
        replace HB := Aside0.mk (below_step HB.out hb)
        clear hb
        go_wp2_with fail
        refine (awake_any _ HT.out).mono ?_
        rintro e w12 ⟨rfl, hw⟩
        have hb := hw
        clear hw
        replace HT := Aside0.mk (Kd.C_below HT.out hb)
        replace HB := Aside0.mk (below_step HB.out hb)
        clear hb
        go_wp2
        go_ret
        exact ⟨rfl, HB.out⟩
      · have c5 : decide (q < 0) = false := decide_eq_false hq0
        have c6 : decide (q > 4095) = true := decide_eq_true (by omega)
        clear hq hqd
        go_enter Tryd.func4, Tryd.ntmps4
        go_wp2_with fail
        refine (hr _).mono ?_
        rintro e w13 ⟨rfl, hw⟩
        have hb := hw.below
        clear hw
        replace HT := Aside0.mk (Kd.C_below HT.out hb)
        replace HB := Aside0.mk (below_step HB.out hb)
        clear hb
        go_wp2_with fail
        refine (hh _ HT.out).mono ?_
        rintro e w14 ⟨rfl, hw⟩
        have hb := hw.below
        clear hw
        replace HT := Aside0.mk (Kd.C_below HT.out hb)
        replace HB := Aside0.mk (below_step HB.out hb)
        clear hb
        go_wp2_with fail
        refine (hs _).mono ?_
        rintro e w15 ⟨rfl, hw⟩
        have hb := hw.below
        clear hw
        replace HT := Aside0.mk (Kd.C_below HT.out hb)
        replace HB := Aside0.mk (below_step HB.out hb)
        clear hb
        go_wp2_with fail
        refine (hm _).mono ?_
        rintro e w16 ⟨rfl, hw⟩
        have hb := hw.below
        clear hw
        replace HT := Aside0.mk (Kd.C_below HT.out hb)
        replace HB := Aside0.mk (below_step HB.out hb)
        clear hb
        skip
        go_wp2_with fail
        refine (hg _).mono ?_
        rintro e w17 ⟨rfl, hw⟩
        have hb := hw.below
        clear hw
        replace HT := Aside0.mk (Kd.C_below HT.out hb)
        replace HB := Aside0.mk (below_step HB.out hb)
        clear hb
        go_wp2_with fail
        refine (awake_any _ HT.out).mono ?_
        rintro e w18 ⟨rfl, hw⟩
        have hb := hw
        clear hw
        replace HT := Aside0.mk (Kd.C_below HT.out hb)
        replace HB := Aside0.mk (below_step HB.out hb)
        clear hb
        go_wp2
        go_ret
        exact ⟨rfl, HB.out⟩
  | true =>
    obtain ⟨_, _, h0⟩ := height_cap s (cap_mem hc)
    have hp := fun w => power_any hc w
    simp only [hc, if_true] at hr hh hs hm
    have c1 : decide (hgt s < 0) = false := decide_eq_false (by omega)
    have c2 : decide (hgt s ≥ 0) = true := decide_eq_true h0
    generalize hgt s = k at *
    generalize s / 8 = d at *
    clear hc h0
    cases hq : slotB q with
    | true =>
      have hqd := of_decide_eq_true hq
      have hg := fun w => seg_any q w
      simp only [hq, if_true] at hg
      have c5 : decide (q < 0) = false := decide_eq_false (by omega)
      have c6 : decide (q > 4095) = false := decide_eq_false (by omega)
      have c7 : q.tdiv 8 = q / 8 := Int.tdiv_eq_ediv_of_nonneg hqd.1
      have c8 : IntKind.i64.wrap (q / 8) = q / 8 := wr64 (by omega) (by omega)
      clear hq hqd
      go_enter Tryd.func4, Tryd.ntmps4
      go_wp2_with fail
      refine (hr _).mono ?_
      rintro e w19 ⟨rfl, hw⟩
      have hb := hw.below
      clear hw
      replace HT := Aside0.mk (Kd.C_below HT.out hb)
      replace HB := Aside0.mk (below_step HB.out hb)
      clear hb
      go_wp2_with fail
      refine (hh _ HT.out).mono ?_
      rintro e w20 ⟨rfl, hw⟩
      have hb := hw.below
      clear hw
      replace HT := Aside0.mk (Kd.C_below HT.out hb)
      replace HB := Aside0.mk (below_step HB.out hb)
      clear hb
      go_wp2_with fail
      refine (hs _).mono ?_
      rintro e w21 ⟨rfl, hw⟩
      have hb := hw.below
      clear hw
      replace HT := Aside0.mk (Kd.C_below HT.out hb)
      replace HB := Aside0.mk (below_step HB.out hb)
      clear hb
      go_wp2_with fail
      refine (hm _).mono ?_
      rintro e w22 ⟨rfl, hw⟩
      have hb := hw.below
      clear hw
      replace HT := Aside0.mk (Kd.C_below HT.out hb)
      replace HB := Aside0.mk (below_step HB.out hb)
      clear hb
      go_wp2_with fail
      refine (hp _).mono ?_
      rintro e w23 ⟨rfl, hw⟩
      have hb := hw.below
      clear hw
      replace HT := Aside0.mk (Kd.C_below HT.out hb)
      replace HB := Aside0.mk (below_step HB.out hb)
      clear hb
      go_wp2_with fail
      refine (hg _).mono ?_
      rintro e w24 ⟨rfl, hw⟩
      have hb := hw.below
      clear hw
      replace HT := Aside0.mk (Kd.C_below HT.out hb)
      replace HB := Aside0.mk (below_step HB.out hb)
      clear hb
      go_wp2_with fail
      refine (awake_any _ HT.out).mono ?_
      rintro e w25 ⟨rfl, hw⟩
      have hb := hw
      clear hw
      replace HT := Aside0.mk (Kd.C_below HT.out hb)
      replace HB := Aside0.mk (below_step HB.out hb)
      clear hb
      go_wp2
      go_ret
      exact ⟨rfl, HB.out⟩
    | false =>
      have hqd := of_decide_eq_false hq
      have hg := fun w => seg_any q w
      simp only [hq, Bool.false_eq_true, if_false] at hg
      by_cases hq0 : q < 0
      · have c5 : decide (q < 0) = true := decide_eq_true hq0
        clear hq hqd
        go_enter Tryd.func4, Tryd.ntmps4
        go_wp2_with fail
        refine (hr _).mono ?_
        rintro e w26 ⟨rfl, hw⟩
        have hb := hw.below
        clear hw
        replace HT := Aside0.mk (Kd.C_below HT.out hb)
        replace HB := Aside0.mk (below_step HB.out hb)
        clear hb
        go_wp2_with fail
        refine (hh _ HT.out).mono ?_
        rintro e w27 ⟨rfl, hw⟩
        have hb := hw.below
        clear hw
        replace HT := Aside0.mk (Kd.C_below HT.out hb)
        replace HB := Aside0.mk (below_step HB.out hb)
        clear hb
        go_wp2_with fail
        refine (hs _).mono ?_
        rintro e w28 ⟨rfl, hw⟩
        have hb := hw.below
        clear hw
        replace HT := Aside0.mk (Kd.C_below HT.out hb)
        replace HB := Aside0.mk (below_step HB.out hb)
        clear hb
        go_wp2_with fail
        refine (hm _).mono ?_
        rintro e w29 ⟨rfl, hw⟩
        have hb := hw.below
        clear hw
        replace HT := Aside0.mk (Kd.C_below HT.out hb)
        replace HB := Aside0.mk (below_step HB.out hb)
        clear hb
        go_wp2_with fail
        refine (hp _).mono ?_
        rintro e w30 ⟨rfl, hw⟩
        have hb := hw.below
        clear hw
        replace HT := Aside0.mk (Kd.C_below HT.out hb)
        replace HB := Aside0.mk (below_step HB.out hb)
        clear hb
        go_wp2_with fail
        refine (hg _).mono ?_
        rintro e w31 ⟨rfl, hw⟩
        have hb := hw.below
        clear hw
        replace HT := Aside0.mk (Kd.C_below HT.out hb)
        replace HB := Aside0.mk (below_step HB.out hb)
        clear hb
        go_wp2_with fail
        refine (awake_any _ HT.out).mono ?_
        rintro e w32 ⟨rfl, hw⟩
        have hb := hw
        clear hw
        replace HT := Aside0.mk (Kd.C_below HT.out hb)
        replace HB := Aside0.mk (below_step HB.out hb)
        clear hb
        go_wp2
        go_ret
        exact ⟨rfl, HB.out⟩
      · have c5 : decide (q < 0) = false := decide_eq_false hq0
        have c6 : decide (q > 4095) = true := decide_eq_true (by omega)
        clear hq hqd
        go_enter Tryd.func4, Tryd.ntmps4
        go_wp2_with fail
        refine (hr _).mono ?_
        rintro e w33 ⟨rfl, hw⟩
        have hb := hw.below
        clear hw
        replace HT := Aside0.mk (Kd.C_below HT.out hb)
        replace HB := Aside0.mk (below_step HB.out hb)
        clear hb
        go_wp2_with fail
        refine (hh _ HT.out).mono ?_
        rintro e w34 ⟨rfl, hw⟩
        have hb := hw.below
        clear hw
        replace HT := Aside0.mk (Kd.C_below HT.out hb)
        replace HB := Aside0.mk (below_step HB.out hb)
        clear hb
        go_wp2_with fail
        refine (hs _).mono ?_
        rintro e w35 ⟨rfl, hw⟩
        have hb := hw.below
        clear hw
        replace HT := Aside0.mk (Kd.C_below HT.out hb)
        replace HB := Aside0.mk (below_step HB.out hb)
        clear hb
        go_wp2_with fail
        refine (hm _).mono ?_
        rintro e w36 ⟨rfl, hw⟩
        have hb := hw.below
        clear hw
        replace HT := Aside0.mk (Kd.C_below HT.out hb)
        replace HB := Aside0.mk (below_step HB.out hb)
        clear hb
        go_wp2_with fail
        refine (hp _).mono ?_
        rintro e w37 ⟨rfl, hw⟩
        have hb := hw.below
        clear hw
        replace HT := Aside0.mk (Kd.C_below HT.out hb)
        replace HB := Aside0.mk (below_step HB.out hb)
        clear hb
        go_wp2_with fail
        refine (hg _).mono ?_
        rintro e w38 ⟨rfl, hw⟩
        have hb := hw.below
        clear hw
        replace HT := Aside0.mk (Kd.C_below HT.out hb)
        replace HB := Aside0.mk (below_step HB.out hb)
        clear hb
        go_wp2_with fail
        refine (awake_any _ HT.out).mono ?_
        rintro e w39 ⟨rfl, hw⟩
        have hb := hw
        clear hw
        replace HT := Aside0.mk (Kd.C_below HT.out hb)
        replace HB := Aside0.mk (below_step HB.out hb)
        clear hb
        go_wp2
        go_ret
        exact ⟨rfl, HB.out⟩

set_option maxHeartbeats 1000000 in
theorem windows_any (s : Int) (ws : (Lit.int .i64 s).wf = true) (l : Int) (wl : (Lit.int .i64 l).wf = true) (W : World) (hT : Tb W) : Calls Tryd.prog 5 #[.int .i64 s, .int .i64 l] W fun e w' => e = .returned (.bool true) ∧ Below W.heap.size W w' := by
  have HT := Aside0.mk hT
  have HB := Aside0.mk (Below.refl W.heap.size W)
  clear hT ws wl
  have hw := fun w => window_any s l w
  unfold winF winM winE at hw
  cases hc : winB s l with
  | true =>
    have hd := of_decide_eq_true hc
    have hr := fun w => refWindow_any hc w
    simp only [hc, if_true] at hw
    have c1 : decide (s < 0) = false := decide_eq_false (by omega)
    have c2 : decide (s > 511) = false := decide_eq_false (by omega)
    have c3 : decide (l < 0) = false := decide_eq_false (by omega)
    have c4 : decide (l > 9) = false := decide_eq_false (by omega)
    generalize wFirst s l = a at *
    generalize wMany l = b at *
    clear hc hd
    go_enter Tryd.func5, Tryd.ntmps5
    go_wp2_with fail
    refine (hw _).mono ?_
    rintro e w1 ⟨rfl, hw⟩
    have hb := hw.below
    clear hw
    replace HT := Aside0.mk (Kd.C_below HT.out hb)
    replace HB := Aside0.mk (below_step HB.out hb)
    clear hb
    go_wp2_with fail
    refine (hr _).mono ?_
    rintro e w2 ⟨rfl, hw⟩
    have hb := hw.below
    clear hw
    replace HT := Aside0.mk (Kd.C_below HT.out hb)
    replace HB := Aside0.mk (below_step HB.out hb)
    clear hb
    go_wp2_with fail
    refine (awake_any _ HT.out).mono ?_
    rintro e w3 ⟨rfl, hw⟩
    have hb := hw
    clear hw
    replace HT := Aside0.mk (Kd.C_below HT.out hb)
    replace HB := Aside0.mk (below_step HB.out hb)
    clear hb
    go_wp2
    go_ret
    exact ⟨rfl, HB.out⟩
  | false =>
    have hd := of_decide_eq_false hc
    simp only [hc, Bool.false_eq_true, if_false] at hw
    clear hc
    by_cases h1 : s < 0
    · have c1 : decide (s < 0) = true := decide_eq_true h1
      go_enter Tryd.func5, Tryd.ntmps5
      go_wp2_with fail
      refine (hw _).mono ?_
      rintro e w4 ⟨rfl, hw⟩
      have hb := hw.below
      clear hw
      replace HT := Aside0.mk (Kd.C_below HT.out hb)
      replace HB := Aside0.mk (below_step HB.out hb)
      clear hb
      go_wp2_with fail
      refine (awake_any _ HT.out).mono ?_
      rintro e w5 ⟨rfl, hw⟩
      have hb := hw
      clear hw
      replace HT := Aside0.mk (Kd.C_below HT.out hb)
      replace HB := Aside0.mk (below_step HB.out hb)
      clear hb
      go_wp2
      go_ret
      exact ⟨rfl, HB.out⟩
    · have c1 : decide (s < 0) = false := decide_eq_false h1
      by_cases h2 : s > 511
      · have c2 : decide (s > 511) = true := decide_eq_true h2
        go_enter Tryd.func5, Tryd.ntmps5
        go_wp2_with fail
        refine (hw _).mono ?_
        rintro e w6 ⟨rfl, hw⟩
        have hb := hw.below
        clear hw
        replace HT := Aside0.mk (Kd.C_below HT.out hb)
        replace HB := Aside0.mk (below_step HB.out hb)
        clear hb
        go_wp2_with fail
        refine (awake_any _ HT.out).mono ?_
        rintro e w7 ⟨rfl, hw⟩
        have hb := hw
        clear hw
        replace HT := Aside0.mk (Kd.C_below HT.out hb)
        replace HB := Aside0.mk (below_step HB.out hb)
        clear hb
        go_wp2
        go_ret
        exact ⟨rfl, HB.out⟩
      · have c2 : decide (s > 511) = false := decide_eq_false h2
        by_cases h3 : l < 0
        · have c3 : decide (l < 0) = true := decide_eq_true h3
          go_enter Tryd.func5, Tryd.ntmps5
          go_wp2_with fail
          refine (hw _).mono ?_
          rintro e w8 ⟨rfl, hw⟩
          have hb := hw.below
          clear hw
          replace HT := Aside0.mk (Kd.C_below HT.out hb)
          replace HB := Aside0.mk (below_step HB.out hb)
          clear hb
          go_wp2_with fail
          refine (awake_any _ HT.out).mono ?_
          rintro e w9 ⟨rfl, hw⟩
          have hb := hw
          clear hw
          replace HT := Aside0.mk (Kd.C_below HT.out hb)
          replace HB := Aside0.mk (below_step HB.out hb)
          clear hb
          go_wp2
          go_ret
          exact ⟨rfl, HB.out⟩
        · have c3 : decide (l < 0) = false := decide_eq_false h3
          have c4 : decide (l > 9) = true := decide_eq_true (by omega)
          go_enter Tryd.func5, Tryd.ntmps5
          go_wp2_with fail
          refine (hw _).mono ?_
          rintro e w10 ⟨rfl, hw⟩
          have hb := hw.below
          clear hw
          replace HT := Aside0.mk (Kd.C_below HT.out hb)
          replace HB := Aside0.mk (below_step HB.out hb)
          clear hb
          go_wp2_with fail
          refine (awake_any _ HT.out).mono ?_
          rintro e w11 ⟨rfl, hw⟩
          have hb := hw
          clear hw
          replace HT := Aside0.mk (Kd.C_below HT.out hb)
          replace HB := Aside0.mk (below_step HB.out hb)
          clear hb
          go_wp2
          go_ret
          exact ⟨rfl, HB.out⟩

set_option maxHeartbeats 1000000 in
theorem bounds_any (n : Int) (wn : (Lit.int .i64 n).wf = true) (l : Int) (wl : (Lit.int .i64 l).wf = true) (h : Int) (wh : (Lit.int .i64 h).wf = true) (W : World) (hT : Tb W) : Calls Tryd.prog 7 #[.int .i64 n, .int .i64 l, .int .i64 h] W fun e w' => e = .returned (.bool true) ∧ Below W.heap.size W w' := by
  have HT := Aside0.mk hT
  have HB := Aside0.mk (Below.refl W.heap.size W)
  clear hT wn wl wh
  have hu := fun w => upper_any l h w
  have hl := fun w => lower_any l h w
  have hw := fun w => within_any n l h w
  have hv := fun w => levels_any l h w
  cases hm : mayB l h with
  | false =>
    simp only [upN, loN, erN, wiN, wiE, hm, Bool.false_eq_true, if_false, if_true] at hu hl hw hv
    clear hm
    go_enter Tryd.func7, Tryd.ntmps7
    go_wp2_with fail
    refine (hu _).mono ?_
    rintro e w1 ⟨rfl, hw⟩
    have hb := hw.below
    clear hw
    replace HT := Aside0.mk (Kd.C_below HT.out hb)
    replace HB := Aside0.mk (below_step HB.out hb)
    clear hb
    go_wp2_with fail
    refine (hl _).mono ?_
    rintro e w2 ⟨rfl, hw⟩
    have hb := hw.below
    clear hw
    replace HT := Aside0.mk (Kd.C_below HT.out hb)
    replace HB := Aside0.mk (below_step HB.out hb)
    clear hb
    go_wp2_with fail
    refine (hw _).mono ?_
    rintro e w3 ⟨rfl, hw⟩
    have hb := hw.below
    clear hw
    replace HT := Aside0.mk (Kd.C_below HT.out hb)
    replace HB := Aside0.mk (below_step HB.out hb)
    clear hb
    go_wp2_with fail
    refine (hv _).mono ?_
    rintro e w4 ⟨rfl, hw⟩
    have hb := hw.below
    clear hw
    replace HT := Aside0.mk (Kd.C_below HT.out hb)
    replace HB := Aside0.mk (below_step HB.out hb)
    clear hb
    go_wp2_with fail
    refine (awake_any _ HT.out).mono ?_
    rintro e w5 ⟨rfl, hw⟩
    have hb := hw
    clear hw
    replace HT := Aside0.mk (Kd.C_below HT.out hb)
    replace HB := Aside0.mk (below_step HB.out hb)
    clear hb
    go_wp2
    go_ret
    exact ⟨rfl, HB.out⟩
  | true =>
    have hru := fun w => refUpper_any hm w
    have hrl := fun w => refLower_any hm w
    simp only [erN, wiN, wiE, hm, if_true, Bool.true_eq_false, if_false] at hu hl hw hv
    by_cases h0 : n < 0
    · have c1 : decide (n < 0) = true := decide_eq_true h0
      simp only [h0, if_true] at hw
      generalize upN l h = a at *
      generalize loN l h = b at *
      clear hm
      go_enter Tryd.func7, Tryd.ntmps7
      go_wp2_with fail
      refine (hu _).mono ?_
      rintro e w6 ⟨rfl, hw⟩
      have hb := hw.below
      clear hw
      replace HT := Aside0.mk (Kd.C_below HT.out hb)
      replace HB := Aside0.mk (below_step HB.out hb)
      clear hb
      go_wp2_with fail
      refine (hl _).mono ?_
      rintro e w7 ⟨rfl, hw⟩
      have hb := hw.below
      clear hw
      replace HT := Aside0.mk (Kd.C_below HT.out hb)
      replace HB := Aside0.mk (below_step HB.out hb)
      clear hb
      go_wp2_with fail
      refine (hw _).mono ?_
      rintro e w8 ⟨rfl, hw⟩
      have hb := hw.below
      clear hw
      replace HT := Aside0.mk (Kd.C_below HT.out hb)
      replace HB := Aside0.mk (below_step HB.out hb)
      clear hb
      go_wp2_with fail
      refine (hv _).mono ?_
      rintro e w9 ⟨rfl, hw⟩
      have hb := hw.below
      clear hw
      replace HT := Aside0.mk (Kd.C_below HT.out hb)
      replace HB := Aside0.mk (below_step HB.out hb)
      clear hb
      go_wp2_with fail
      refine (hru _).mono ?_
      rintro e w10 ⟨rfl, hw⟩
      have hb := hw.below
      clear hw
      replace HT := Aside0.mk (Kd.C_below HT.out hb)
      replace HB := Aside0.mk (below_step HB.out hb)
      clear hb
      go_wp2_with fail
      refine (hrl _).mono ?_
      rintro e w11 ⟨rfl, hw⟩
      have hb := hw.below
      clear hw
      replace HT := Aside0.mk (Kd.C_below HT.out hb)
      replace HB := Aside0.mk (below_step HB.out hb)
      clear hb
      go_wp2_with fail
      refine (awake_any _ HT.out).mono ?_
      rintro e w12 ⟨rfl, hw⟩
      have hb := hw
      clear hw
      replace HT := Aside0.mk (Kd.C_below HT.out hb)
      replace HB := Aside0.mk (below_step HB.out hb)
      clear hb
      go_wp2
      go_ret
      exact ⟨rfl, HB.out⟩
    · have c1 : decide (n < 0) = false := decide_eq_false h0
      have hrw := fun w => refWithin_any hm (show 0 ≤ n by omega) w
      simp only [h0, if_false] at hw
      generalize upN l h = a at *
      generalize loN l h = b at *
      generalize withN n l h = c at *
      clear hm
      go_enter Tryd.func7, Tryd.ntmps7
      go_wp2_with fail
      refine (hu _).mono ?_
      rintro e w13 ⟨rfl, hw⟩
      have hb := hw.below
      clear hw
      replace HT := Aside0.mk (Kd.C_below HT.out hb)
      replace HB := Aside0.mk (below_step HB.out hb)
      clear hb
      go_wp2_with fail
      refine (hl _).mono ?_
      rintro e w14 ⟨rfl, hw⟩
      have hb := hw.below
      clear hw
      replace HT := Aside0.mk (Kd.C_below HT.out hb)
      replace HB := Aside0.mk (below_step HB.out hb)
      clear hb
      go_wp2_with fail
      refine (hw _).mono ?_
      rintro e w15 ⟨rfl, hw⟩
      have hb := hw.below
      clear hw
      replace HT := Aside0.mk (Kd.C_below HT.out hb)
      replace HB := Aside0.mk (below_step HB.out hb)
      clear hb
      go_wp2_with fail
      refine (hv _).mono ?_
      rintro e w16 ⟨rfl, hw⟩
      have hb := hw.below
      clear hw
      replace HT := Aside0.mk (Kd.C_below HT.out hb)
      replace HB := Aside0.mk (below_step HB.out hb)
      clear hb
      go_wp2_with fail
      refine (hru _).mono ?_
      rintro e w17 ⟨rfl, hw⟩
      have hb := hw.below
      clear hw
      replace HT := Aside0.mk (Kd.C_below HT.out hb)
      replace HB := Aside0.mk (below_step HB.out hb)
      clear hb
      go_wp2_with fail
      refine (hrl _).mono ?_
      rintro e w18 ⟨rfl, hw⟩
      have hb := hw.below
      clear hw
      replace HT := Aside0.mk (Kd.C_below HT.out hb)
      replace HB := Aside0.mk (below_step HB.out hb)
      clear hb
      go_wp2_with fail
      refine (hrw _).mono ?_
      rintro e w19 ⟨rfl, hw⟩
      have hb := hw.below
      clear hw
      replace HT := Aside0.mk (Kd.C_below HT.out hb)
      replace HB := Aside0.mk (below_step HB.out hb)
      clear hb
      go_wp2_with fail
      refine (awake_any _ HT.out).mono ?_
      rintro e w20 ⟨rfl, hw⟩
      have hb := hw
      clear hw
      replace HT := Aside0.mk (Kd.C_below HT.out hb)
      replace HB := Aside0.mk (below_step HB.out hb)
      clear hb
      go_wp2
      go_ret
      exact ⟨rfl, HB.out⟩
end Go.Proofs.YtlaegahdignphaaDoor.L4
