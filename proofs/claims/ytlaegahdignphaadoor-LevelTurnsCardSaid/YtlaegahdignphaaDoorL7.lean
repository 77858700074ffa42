/- The law LevelTurns walked: it returns true; whatever the numbers. -/
import Derived.Test.YtlaegahdignphaaDoorL5
namespace Go.Proofs.YtlaegahdignphaaDoor.L7
open Go.RowKit Go.Proofs.YtlaegahdignphaaDoorW.PrintWords Go.Proofs.YtlaegahdignphaaDoorW.PrintLast Go.Proofs.YtlaegahdignphaaDoorW.PrintMore Q1 L1 L3 L5
set_option linter.unusedVariables false
set_option linter.unusedSimpArgs false

/-- What Within tells where the level is one, and the number none below 0. -/
theorem wi_of {n l h : Int} (hm : mayB l h = true) (h0 : 0 ≤ n) : wiN n l h = withN n l h ∧ wiE n l h = 0 := by
  unfold wiN wiE
  rw [if_neg (by rw [hm]; decide), if_neg (by omega), if_neg (by rw [hm]; decide), if_neg (by omega)]
  exact ⟨rfl, rfl⟩
theorem within_is {n l h v : Int} (hm : mayB l h = true) (h0 : 0 ≤ n) (hv : withN n l h = v) (w : World) : Calls Tryd.prog 28 #[.int .i64 n, .int .i64 l, .int .i64 h] w fun e w' => e = .returned (.tuple #[.int .i64 v, .int .i64 0]) ∧ Drawn0 w w' := by
  have := within_any n l h w
  obtain ⟨e1, e2⟩ := wi_of hm h0
  rw [e1, e2, hv] at this
  exact this

theorem nat_of {h : Int} (h2 : ¬ h < 2) : ∃ q : Nat, h = q ∧ 2 ≤ q := by
  obtain ⟨q, rfl⟩ := Int.eq_ofNat_of_zero_le (show 0 ≤ h by omega)
  exact ⟨q, rfl, by omega⟩
theorem none_of {h : Int} (hh : h < 2 ∨ h > 9) : upN h h = 0 ∧ loN h h = 0 ∧ erN h h = 10 := by
  have hm : mayB h h = false := decide_eq_false (by omega)
  simp [upN, loN, erN, hm]
theorem root_tests {h : Int} (h2 : ¬ h < 2) (h9 : ¬ h > 9) :
    (∀ w, Calls Tryd.prog 28 #[.int .i64 (upN h h), .int .i64 h, .int .i64 h] w fun e w' => e = .returned (.tuple #[.int .i64 0, .int .i64 0]) ∧ Drawn0 w w') ∧
    (∀ w, Calls Tryd.prog 28 #[.int .i64 (upN h h + 1), .int .i64 h, .int .i64 h] w fun e w' => e = .returned (.tuple #[.int .i64 1, .int .i64 0]) ∧ Drawn0 w w') ∧
    IntKind.i64.wrap (upN h h + 1) = upN h h + 1 ∧ erN h h = 0 := by
  obtain ⟨q, rfl, hq⟩ := nat_of h2
  obtain ⟨r1, r2, r3, r4, r5⟩ := turns_root q (by omega) hq
  exact ⟨fun w => within_is r5 r3 r1 w, fun w => within_is r5 (by omega) r2 w, r4, by simp [erN, r5]⟩
theorem next_tests {h : Int} (h2 : ¬ h < 2) (h9 : h < 9) :
    (∀ w, Calls Tryd.prog 28 #[.int .i64 (upN h h + 1), .int .i64 (h + 1), .int .i64 (h + 1)] w fun e w' => e = .returned (.tuple #[.int .i64 0, .int .i64 0]) ∧ Drawn0 w w') ∧ IntKind.i64.wrap (h + 1) = h + 1 := by
  obtain ⟨q, rfl, hq⟩ := nat_of h2
  obtain ⟨r1, r2, r3⟩ := turns_next q (by omega) hq
  obtain ⟨_, _, r4, _⟩ := turns_root q (by omega) hq
  exact ⟨fun w => within_is r2 (by omega) r1 w, r3⟩
theorem half_tests {h : Int} (h9 : ¬ h > 9) (h3 : h > 2) :
    (∀ w, Calls Tryd.prog 28 #[.int .i64 (loN h h), .int .i64 h, .int .i64 h] w fun e w' => e = .returned (.tuple #[.int .i64 0, .int .i64 0]) ∧ Drawn0 w w') ∧
    (∀ w, Calls Tryd.prog 28 #[.int .i64 (loN h h - 1), .int .i64 h, .int .i64 h] w fun e w' => e = .returned (.tuple #[.int .i64 (-1), .int .i64 0]) ∧ Drawn0 w w') ∧
    (∀ w, Calls Tryd.prog 28 #[.int .i64 (loN h h - 1), .int .i64 (h - 1), .int .i64 (h - 1)] w fun e w' => e = .returned (.tuple #[.int .i64 0, .int .i64 0]) ∧ Drawn0 w w') ∧
    IntKind.i64.wrap (loN h h - 1) = loN h h - 1 ∧ IntKind.i64.wrap (h - 1) = h - 1 := by
  obtain ⟨q, rfl, hq⟩ := nat_of (h := h) (by omega)
  obtain ⟨r1, r2, r3, r4⟩ := turns_half q (by omega) (by omega)
  obtain ⟨s1, s2, s3⟩ := turns_half2 q (by omega) (by omega)
  obtain ⟨_, _, _, _, r5⟩ := turns_root q (by omega) hq
  exact ⟨fun w => within_is r5 (by omega) r1 w, fun w => within_is r5 (by omega) r2 w, fun w => within_is r4 (by omega) r3 w, s2, s3⟩
theorem lo_two {h : Int} (h2 : ¬ h < 2) (h3 : ¬ h > 2) : loN h h = 0 := by
  obtain rfl : h = 2 := by omega
  decide
theorem for_tests {n : Int} (h1 : ¬ n < 0) (h2 : ¬ n > 2560) : capB (forR n 7 0) = true ∧ (∃ x : Int, (∀ w, Calls Tryd.prog 28 #[.int .i64 n, .int .i64 (hgt (forR n 7 0)), .int .i64 (hgt (forR n 7 0))] w fun e w' => e = .returned (.tuple #[.int .i64 x, .int .i64 0]) ∧ Drawn0 w w') ∧ decide (x > 0) = false) ∧ True := by
  obtain ⟨q, rfl⟩ := Int.eq_ofNat_of_zero_le (show 0 ≤ n by omega)
  obtain ⟨r1, r2, r3⟩ := turns_for q (by omega)
  exact ⟨r1, ⟨_, fun w => within_is r3 (by omega) rfl w, decide_eq_false (by omega)⟩, trivial⟩
theorem for_tests2 {n : Int} (h1 : ¬ n < 0) (h2 : ¬ n > 2560) : forR n 7 0 > 32 → (∀ w, Calls Tryd.prog 28 #[.int .i64 n, .int .i64 (hgt (forR n 7 0) - 1), .int .i64 (hgt (forR n 7 0) - 1)] w fun e w' => e = .returned (.tuple #[.int .i64 1, .int .i64 0]) ∧ Drawn0 w w') ∧ IntKind.i64.wrap (hgt (forR n 7 0) - 1) = hgt (forR n 7 0) - 1 := by
  obtain ⟨q, rfl⟩ := Int.eq_ofNat_of_zero_le (show 0 ≤ n by omega)
  intro hc
  rcases turns_for2 q (by omega) with h | ⟨r1, r2, r3⟩
  · exact absurd h (by omega)
  · exact ⟨fun w => within_is r2 (by omega) r1 w, r3⟩

set_option maxRecDepth 100000 in
set_option maxHeartbeats 2000000 in
theorem turns_any (h : Int) (wh : (Lit.int .i64 h).wf = true) (n : Int) (wn : (Lit.int .i64 n).wf = true) (W : World) (hT : Tb W) : Calls Tryd.prog 8 #[.int .i64 h, .int .i64 n] W fun e w' => e = .returned (.bool true) ∧ Below W.heap.size W w' := by
  have HT := Aside0.mk hT
  have HB := Aside0.mk (Below.refl W.heap.size W)
  clear hT wh wn
  have hu := fun w => upper_any h h w
  have ho := fun w => lower_any h h w
  have hf := fun w => for_any n w
  unfold forN forE at hf
  by_cases h2 : h < 2
  · obtain ⟨e1, e2, e3⟩ := none_of (Or.inl h2)
    have c1 : decide (h ≥ 2) = false := decide_eq_false (by omega)
    simp only [e1, e2, e3] at hu ho
    clear h2 e1 e2 e3
    go_enter Tryd.func8, Tryd.ntmps8
    go_wp2_with fail
    refine (hu _).mono ?_
    rintro e w1 ⟨rfl, hw⟩
    have hb := hw.below
    clear hw
    replace HT := Aside0.mk (Kd.C_below HT.out hb)
    replace HB := Aside0.mk (below_step HB.out hb)
    clear hb
    go_wp2_with fail
    refine (ho _).mono ?_
    rintro e w2 ⟨rfl, hw⟩
    have hb := hw.below
    clear hw
    replace HT := Aside0.mk (Kd.C_below HT.out hb)
    replace HB := Aside0.mk (below_step HB.out hb)
    clear hb
    by_cases hn1 : n < 0
    · have d1 : decide (n < 0) = true := decide_eq_true hn1
      simp only [if_pos hn1] at hf
      go_wp2_with fail
      refine (hf _).mono ?_
      rintro e w3 ⟨rfl, hw⟩
      have hb := hw
      clear hw
      replace HT := Aside0.mk (Kd.C_below HT.out hb)
      replace HB := Aside0.mk (below_step HB.out hb)
      clear hb
      go_wp2_with fail
      refine (awake_any _ HT.out).mono ?_
      rintro e w4 ⟨rfl, hw⟩
      have hb := hw
      clear hw
      replace HT := Aside0.mk (Kd.C_below HT.out hb)
      replace HB := Aside0.mk (below_step HB.out hb)
      clear hb
      go_wp2
      go_ret
      exact ⟨rfl, HB.out⟩
    · have d1 : decide (n < 0) = false := decide_eq_false hn1
      simp only [if_neg hn1] at hf
      by_cases hn2 : n > 2560
      · have d2 : decide (n > 2560) = true := decide_eq_true hn2
        simp only [if_pos hn2] at hf
        go_wp2_with fail
        refine (hf _).mono ?_
        rintro e w5 ⟨rfl, hw⟩
        have hb := hw
        clear hw
        replace HT := Aside0.mk (Kd.C_below HT.out hb)
        replace HB := Aside0.mk (below_step HB.out hb)
        clear hb
        go_wp2_with fail
        refine (awake_any _ HT.out).mono ?_
        rintro e w6 ⟨rfl, hw⟩
        have hb := hw
        clear hw
        replace HT := Aside0.mk (Kd.C_below HT.out hb)
        replace HB := Aside0.mk (below_step HB.out hb)
        clear hb
        go_wp2
        go_ret
        exact ⟨rfl, HB.out⟩
      · have d2 : decide (n > 2560) = false := decide_eq_false hn2
        simp only [if_neg hn2] at hf
        obtain ⟨t1, t2, t3⟩ := for_tests hn1 hn2
        have t4 := for_tests2 hn1 hn2
        have hk := fun w hw => height_any (forR n 7 0) w hw
        simp only [t1, if_true] at hk
        by_cases hc : forR n 7 0 > 32
        · have d3 : decide (forR n 7 0 > 32) = true := decide_eq_true hc
          obtain ⟨x, hx, hx0⟩ := t2
          obtain ⟨hy, hy1⟩ := t4 hc
          have d4 : decide (x > 0) = false := hx0
          clear t1 t3 t4 hc hn1 hn2
          generalize hgt (forR n 7 0) = k at *
          generalize forR n 7 0 = c at *
          go_wp2_with fail
          refine (hf _).mono ?_
          rintro e w7 ⟨rfl, hw⟩
          have hb := hw
          clear hw
          replace HT := Aside0.mk (Kd.C_below HT.out hb)
          replace HB := Aside0.mk (below_step HB.out hb)
          clear hb
          go_wp2_with fail
          refine (hk _ HT.out).mono ?_
          rintro e w8 ⟨rfl, hw⟩
          have hb := hw.below
          clear hw
          replace HT := Aside0.mk (Kd.C_below HT.out hb)
          replace HB := Aside0.mk (below_step HB.out hb)
          clear hb
          go_wp2_with fail
          refine (hx _).mono ?_
          rintro e w9 ⟨rfl, hw⟩
          have hb := hw.below
          clear hw
          replace HT := Aside0.mk (Kd.C_below HT.out hb)
          replace HB := Aside0.mk (below_step HB.out hb)
          clear hb
          go_wp2_with fail
          refine (hy _).mono ?_
          rintro e w10 ⟨rfl, hw⟩
          have hb := hw.below
          clear hw
          replace HT := Aside0.mk (Kd.C_below HT.out hb)
          replace HB := Aside0.mk (below_step HB.out hb)
          clear hb
          go_wp2_with fail
          refine (awake_any _ HT.out).mono ?_
          rintro e w11 ⟨rfl, hw⟩
          have hb := hw
          clear hw
          replace HT := Aside0.mk (Kd.C_below HT.out hb)
          replace HB := Aside0.mk (below_step HB.out hb)
          clear hb
          go_wp2
          go_ret
          exact ⟨rfl, HB.out⟩
        · have d3 : decide (forR n 7 0 > 32) = false := decide_eq_false hc
          obtain ⟨x, hx, hx0⟩ := t2
          have d4 : decide (x > 0) = false := hx0
          clear t1 t3 t4 hc hn1 hn2
          generalize hgt (forR n 7 0) = k at *
          generalize forR n 7 0 = c at *
          go_wp2_with fail
          refine (hf _).mono ?_
          rintro e w12 ⟨rfl, hw⟩
          have hb := hw
          clear hw
          replace HT := Aside0.mk (Kd.C_below HT.out hb)
          replace HB := Aside0.mk (below_step HB.out hb)
          clear hb
          go_wp2_with fail
          refine (hk _ HT.out).mono ?_
          rintro e w13 ⟨rfl, hw⟩
          have hb := hw.below
          clear hw
          replace HT := Aside0.mk (Kd.C_below HT.out hb)
          replace HB := Aside0.mk (below_step HB.out hb)
          clear hb
          go_wp2_with fail
          refine (hx _).mono ?_
          rintro e w14 ⟨rfl, hw⟩
          have hb := hw.below
          clear hw
          replace HT := Aside0.mk (Kd.C_below HT.out hb)
          replace HB := Aside0.mk (below_step HB.out hb)
          clear hb
          go_wp2_with fail
          refine (awake_any _ HT.out).mono ?_
          rintro e w15 ⟨rfl, hw⟩
          have hb := hw
          clear hw
          replace HT := Aside0.mk (Kd.C_below HT.out hb)
          replace HB := Aside0.mk (below_step HB.out hb)
          clear hb
          go_wp2
          go_ret
          exact ⟨rfl, HB.out⟩
  · have c1 : decide (h ≥ 2) = true := decide_eq_true (by omega)
    by_cases h9 : h > 9
    · obtain ⟨e1, e2, e3⟩ := none_of (Or.inr h9)
      have c2 : decide (h ≤ 9) = false := decide_eq_false (by omega)
      simp only [e1, e2, e3] at hu ho
      clear h2 h9 e1 e2 e3
      go_enter Tryd.func8, Tryd.ntmps8
      go_wp2_with fail
      refine (hu _).mono ?_
      rintro e w16 ⟨rfl, hw⟩
      have hb := hw.below
      clear hw
      replace HT := Aside0.mk (Kd.C_below HT.out hb)
      replace HB := Aside0.mk (below_step HB.out hb)
      clear hb
      go_wp2_with fail
      refine (ho _).mono ?_
      rintro e w17 ⟨rfl, hw⟩
      have hb := hw.below
      clear hw
      replace HT := Aside0.mk (Kd.C_below HT.out hb)
      replace HB := Aside0.mk (below_step HB.out hb)
      clear hb
      by_cases hn1 : n < 0
      · have d1 : decide (n < 0) = true := decide_eq_true hn1
        simp only [if_pos hn1] at hf
        go_wp2_with fail
        refine (hf _).mono ?_
        rintro e w18 ⟨rfl, hw⟩
        have hb := hw
        clear hw
        replace HT := Aside0.mk (Kd.C_below HT.out hb)
        replace HB := Aside0.mk (below_step HB.out hb)
        clear hb
        go_wp2_with fail
        refine (awake_any _ HT.out).mono ?_
        rintro e w19 ⟨rfl, hw⟩
        have hb := hw
        clear hw
        replace HT := Aside0.mk (Kd.C_below HT.out hb)
        replace HB := Aside0.mk (below_step HB.out hb)
        clear hb
        go_wp2
        go_ret
        exact ⟨rfl, HB.out⟩
      · have d1 : decide (n < 0) = false := decide_eq_false hn1
        simp only [if_neg hn1] at hf
        by_cases hn2 : n > 2560
        · have d2 : decide (n > 2560) = true := decide_eq_true hn2
          simp only [if_pos hn2] at hf
          go_wp2_with fail
          refine (hf _).mono ?_
          rintro e w20 ⟨rfl, hw⟩
          have hb := hw
          clear hw
          replace HT := Aside0.mk (Kd.C_below HT.out hb)
          replace HB := Aside0.mk (below_step HB.out hb)
          clear hb
          go_wp2_with fail
          refine (awake_any _ HT.out).mono ?_
          rintro e w21 ⟨rfl, hw⟩
          have hb := hw
          clear hw
          replace HT := Aside0.mk (Kd.C_below HT.out hb)
          replace HB := Aside0.mk (below_step HB.out hb)
          clear hb
          go_wp2
          go_ret
          exact ⟨rfl, HB.out⟩
        · have d2 : decide (n > 2560) = false := decide_eq_false hn2
          simp only [if_neg hn2] at hf
          obtain ⟨t1, t2, t3⟩ := for_tests hn1 hn2
          have t4 := for_tests2 hn1 hn2
          have hk := fun w hw => height_any (forR n 7 0) w hw
          simp only [t1, if_true] at hk
          by_cases hc : forR n 7 0 > 32
          · have d3 : decide (forR n 7 0 > 32) = true := decide_eq_true hc
            obtain ⟨x, hx, hx0⟩ := t2
            obtain ⟨hy, hy1⟩ := t4 hc
            have d4 : decide (x > 0) = false := hx0
            clear t1 t3 t4 hc hn1 hn2
            generalize hgt (forR n 7 0) = k at *
            generalize forR n 7 0 = c at *
            go_wp2_with fail
            refine (hf _).mono ?_
            rintro e w22 ⟨rfl, hw⟩
            have hb := hw
            clear hw
            replace HT := Aside0.mk (Kd.C_below HT.out hb)
            replace HB := Aside0.mk (below_step HB.out hb)
            clear hb
            go_wp2_with fail
            refine (hk _ HT.out).mono ?_
            rintro e w23 ⟨rfl, hw⟩
            have hb := hw.below
            clear hw
            replace HT := Aside0.mk (Kd.C_below HT.out hb)
            replace HB := Aside0.mk (below_step HB.out hb)
            clear hb
            go_wp2_with fail
            refine (hx _).mono ?_
            rintro e w24 ⟨rfl, hw⟩
            have hb := hw.below
            clear hw
            replace HT := Aside0.mk (Kd.C_below HT.out hb)
            replace HB := Aside0.mk (below_step HB.out hb)
            clear hb
            go_wp2_with fail
            refine (hy _).mono ?_
            rintro e w25 ⟨rfl, hw⟩
            have hb := hw.below
            clear hw
            replace HT := Aside0.mk (Kd.C_below HT.out hb)
            replace HB := Aside0.mk (below_step HB.out hb)
            clear hb
            go_wp2_with fail
            refine (awake_any _ HT.out).mono ?_
            rintro e w26 ⟨rfl, hw⟩
            have hb := hw
            clear hw
            replace HT := Aside0.mk (Kd.C_below HT.out hb)
            replace HB := Aside0.mk (below_step HB.out hb)
            clear hb
            go_wp2
            go_ret
            exact ⟨rfl, HB.out⟩
          · have d3 : decide (forR n 7 0 > 32) = false := decide_eq_false hc
            obtain ⟨x, hx, hx0⟩ := t2
            have d4 : decide (x > 0) = false := hx0
            clear t1 t3 t4 hc hn1 hn2
            generalize hgt (forR n 7 0) = k at *
            generalize forR n 7 0 = c at *
            go_wp2_with fail
            refine (hf _).mono ?_
            rintro e w27 ⟨rfl, hw⟩
            have hb := hw
            clear hw
            replace HT := Aside0.mk (Kd.C_below HT.out hb)
            replace HB := Aside0.mk (below_step HB.out hb)
            clear hb
            go_wp2_with fail
            refine (hk _ HT.out).mono ?_
            rintro e w28 ⟨rfl, hw⟩
            have hb := hw.below
            clear hw
            replace HT := Aside0.mk (Kd.C_below HT.out hb)
            replace HB := Aside0.mk (below_step HB.out hb)
            clear hb
            go_wp2_with fail
            refine (hx _).mono ?_
            rintro e w29 ⟨rfl, hw⟩
            have hb := hw.below
            clear hw
            replace HT := Aside0.mk (Kd.C_below HT.out hb)
            replace HB := Aside0.mk (below_step HB.out hb)
            clear hb
            go_wp2_with fail
            refine (awake_any _ HT.out).mono ?_
            rintro e w30 ⟨rfl, hw⟩
            have hb := hw
            clear hw
            replace HT := Aside0.mk (Kd.C_below HT.out hb)
            replace HB := Aside0.mk (below_step HB.out hb)
            clear hb
            go_wp2
            go_ret
            exact ⟨rfl, HB.out⟩
    · obtain ⟨hb1, hb2, hb3, hb4⟩ := root_tests h2 h9
      have hlo := fun g => half_tests (h := h) h9 g
      simp only [hb4] at hu ho
      have hnx := fun g => next_tests (h := h) h2 g
      by_cases hl : h < 9
      · have c3 : decide (h < 9) = true := decide_eq_true hl
        obtain ⟨hn1, hn2⟩ := hnx hl
        by_cases hg : h > 2
        · have c4 : decide (h > 2) = true := decide_eq_true hg
          obtain ⟨g1, g2, g3, g4, g5⟩ := hlo hg
          clear hnx hlo hb4 h2 h9 hl hg
          generalize upN h h = a at *
          generalize loN h h = b at *
          go_enter Tryd.func8, Tryd.ntmps8
          go_wp2_with fail
          refine (hu _).mono ?_
          rintro e w31 ⟨rfl, hw⟩
          have hb := hw.below
          clear hw
          replace HT := Aside0.mk (Kd.C_below HT.out hb)
          replace HB := Aside0.mk (below_step HB.out hb)
          clear hb
          go_wp2_with fail
          refine (ho _).mono ?_
          rintro e w32 ⟨rfl, hw⟩
          have hb := hw.below
          clear hw
          replace HT := Aside0.mk (Kd.C_below HT.out hb)
          replace HB := Aside0.mk (below_step HB.out hb)
          clear hb
          go_wp2_with fail
          refine (hb1 _).mono ?_
          rintro e w33 ⟨rfl, hw⟩
          have hb := hw.below
          clear hw
          replace HT := Aside0.mk (Kd.C_below HT.out hb)
          replace HB := Aside0.mk (below_step HB.out hb)
          clear hb
          go_wp2_with fail
          refine (hb2 _).mono ?_
          rintro e w34 ⟨rfl, hw⟩
          have hb := hw.below
          clear hw
          replace HT := Aside0.mk (Kd.C_below HT.out hb)
          replace HB := Aside0.mk (below_step HB.out hb)
          clear hb
          go_wp2_with fail
          refine (hn1 _).mono ?_
          rintro e w35 ⟨rfl, hw⟩
          have hb := hw.below
          clear hw
          replace HT := Aside0.mk (Kd.C_below HT.out hb)
          replace HB := Aside0.mk (below_step HB.out hb)
          clear hb
          go_wp2_with fail
          refine (g1 _).mono ?_
          rintro e w36 ⟨rfl, hw⟩
          have hb := hw.below
          clear hw
          replace HT := Aside0.mk (Kd.C_below HT.out hb)
          replace HB := Aside0.mk (below_step HB.out hb)
          clear hb
          go_wp2_with fail
          refine (g2 _).mono ?_
          rintro e w37 ⟨rfl, hw⟩
          have hb := hw.below
          clear hw
          replace HT := Aside0.mk (Kd.C_below HT.out hb)
          replace HB := Aside0.mk (below_step HB.out hb)
          clear hb
          go_wp2_with fail
          refine (g3 _).mono ?_
          rintro e w38 ⟨rfl, hw⟩
          have hb := hw.below
          clear hw
          replace HT := Aside0.mk (Kd.C_below HT.out hb)
          replace HB := Aside0.mk (below_step HB.out hb)
          clear hb
          by_cases hn1 : n < 0
          · have d1 : decide (n < 0) = true := decide_eq_true hn1
            simp only [if_pos hn1] at hf
            go_wp2_with fail
            refine (hf _).mono ?_
            rintro e w39 ⟨rfl, hw⟩
            have hb := hw
            clear hw
            replace HT := Aside0.mk (Kd.C_below HT.out hb)
            replace HB := Aside0.mk (below_step HB.out hb)
            clear hb
            go_wp2_with fail
            refine (awake_any _ HT.out).mono ?_
            rintro e w40 ⟨rfl, hw⟩
            have hb := hw
            clear hw
            replace HT := Aside0.mk (Kd.C_below HT.out hb)
            replace HB := Aside0.mk (below_step HB.out hb)
            clear hb
            go_wp2
            go_ret
            exact ⟨rfl, HB.out⟩
          · have d1 : decide (n < 0) = false := decide_eq_false hn1
            simp only [if_neg hn1] at hf
            by_cases hn2 : n > 2560
            · have d2 : decide (n > 2560) = true := decide_eq_true hn2
              simp only [if_pos hn2] at hf
              go_wp2_with fail
              refine (hf _).mono ?_
              rintro e w41 ⟨rfl, hw⟩
              have hb := hw
              clear hw
              replace HT := Aside0.mk (Kd.C_below HT.out hb)
              replace HB := Aside0.mk (below_step HB.out hb)
              clear hb
              go_wp2_with fail
              refine (awake_any _ HT.out).mono ?_
              rintro e w42 ⟨rfl, hw⟩
              have hb := hw
              clear hw
              replace HT := Aside0.mk (Kd.C_below HT.out hb)
              replace HB := Aside0.mk (below_step HB.out hb)
              clear hb
              go_wp2
              go_ret
              exact ⟨rfl, HB.out⟩
            · have d2 : decide (n > 2560) = false := decide_eq_false hn2
              simp only [if_neg hn2] at hf
              obtain ⟨t1, t2, t3⟩ := for_tests hn1 hn2
              have t4 := for_tests2 hn1 hn2
              have hk := fun w hw => height_any (forR n 7 0) w hw
              simp only [t1, if_true] at hk
              by_cases hc : forR n 7 0 > 32
              · have d3 : decide (forR n 7 0 > 32) = true := decide_eq_true hc
                obtain ⟨x, hx, hx0⟩ := t2
                obtain ⟨hy, hy1⟩ := t4 hc
                have d4 : decide (x > 0) = false := hx0
                clear t1 t3 t4 hc hn1 hn2
                generalize hgt (forR n 7 0) = k at *
                generalize forR n 7 0 = c at *
                go_wp2_with fail
                refine (hf _).mono ?_
                rintro e w43 ⟨rfl, hw⟩
                have hb := hw
                clear hw
                replace HT := Aside0.mk (Kd.C_below HT.out hb)
                replace HB := Aside0.mk (below_step HB.out hb)
                clear hb
                go_wp2_with fail
                refine (hk _ HT.out).mono ?_
                rintro e w44 ⟨rfl, hw⟩
                have hb := hw.below
                clear hw
                replace HT := Aside0.mk (Kd.C_below HT.out hb)
                replace HB := Aside0.mk (below_step HB.out hb)
                clear hb
                go_wp2_with fail
                refine (hx _).mono ?_
                rintro e w45 ⟨rfl, hw⟩
                have hb := hw.below
                clear hw
                replace HT := Aside0.mk (Kd.C_below HT.out hb)
                replace HB := Aside0.mk (below_step HB.out hb)
                clear hb
                go_wp2_with fail
                refine (hy _).mono ?_
                rintro e w46 ⟨rfl, hw⟩
                have hb := hw.below
                clear hw
                replace HT := Aside0.mk (Kd.C_below HT.out hb)
                replace HB := Aside0.mk (below_step HB.out hb)
                clear hb
                go_wp2_with fail
                refine (awake_any _ HT.out).mono ?_
                rintro e w47 ⟨rfl, hw⟩
                have hb := hw
                clear hw
                replace HT := Aside0.mk (Kd.C_below HT.out hb)
                replace HB := Aside0.mk (below_step HB.out hb)
                clear hb
                go_wp2
                go_ret
                exact ⟨rfl, HB.out⟩
              · have d3 : decide (forR n 7 0 > 32) = false := decide_eq_false hc
                obtain ⟨x, hx, hx0⟩ := t2
                have d4 : decide (x > 0) = false := hx0
                clear t1 t3 t4 hc hn1 hn2
                generalize hgt (forR n 7 0) = k at *
                generalize forR n 7 0 = c at *
                go_wp2_with fail
                refine (hf _).mono ?_
                rintro e w48 ⟨rfl, hw⟩
                have hb := hw
                clear hw
                replace HT := Aside0.mk (Kd.C_below HT.out hb)
                replace HB := Aside0.mk (below_step HB.out hb)
                clear hb
                go_wp2_with fail
                refine (hk _ HT.out).mono ?_
                rintro e w49 ⟨rfl, hw⟩
                have hb := hw.below
                clear hw
                replace HT := Aside0.mk (Kd.C_below HT.out hb)
                replace HB := Aside0.mk (below_step HB.out hb)
                clear hb
                go_wp2_with fail
                refine (hx _).mono ?_
                rintro e w50 ⟨rfl, hw⟩
                have hb := hw.below
                clear hw
                replace HT := Aside0.mk (Kd.C_below HT.out hb)
                replace HB := Aside0.mk (below_step HB.out hb)
                clear hb
                go_wp2_with fail
                refine (awake_any _ HT.out).mono ?_
                rintro e w51 ⟨rfl, hw⟩
                have hb := hw
                clear hw
                replace HT := Aside0.mk (Kd.C_below HT.out hb)
                replace HB := Aside0.mk (below_step HB.out hb)
                clear hb
                go_wp2
                go_ret
                exact ⟨rfl, HB.out⟩
        · have c4 : decide (h > 2) = false := decide_eq_false hg
          have c5 : loN h h = 0 := lo_two h2 hg
          simp only [c5] at ho
          clear hnx hlo hb4 h2 h9 hl hg c5
          generalize upN h h = a at *
          go_enter Tryd.func8, Tryd.ntmps8
          go_wp2_with fail
          refine (hu _).mono ?_
          rintro e w52 ⟨rfl, hw⟩
          have hb := hw.below
          clear hw
          replace HT := Aside0.mk (Kd.C_below HT.out hb)
          replace HB := Aside0.mk (below_step HB.out hb)
          clear hb
          go_wp2_with fail
          refine (ho _).mono ?_
          rintro e w53 ⟨rfl, hw⟩
          have hb := hw.below
          clear hw
          replace HT := Aside0.mk (Kd.C_below HT.out hb)
          replace HB := Aside0.mk (below_step HB.out hb)
          clear hb
          go_wp2_with fail
          refine (hb1 _).mono ?_
          rintro e w54 ⟨rfl, hw⟩
          have hb := hw.below
          clear hw
          replace HT := Aside0.mk (Kd.C_below HT.out hb)
          replace HB := Aside0.mk (below_step HB.out hb)
          clear hb
          go_wp2_with fail
          refine (hb2 _).mono ?_
          rintro e w55 ⟨rfl, hw⟩
          have hb := hw.below
          clear hw
          replace HT := Aside0.mk (Kd.C_below HT.out hb)
          replace HB := Aside0.mk (below_step HB.out hb)
          clear hb
          go_wp2_with fail
          refine (hn1 _).mono ?_
          rintro e w56 ⟨rfl, hw⟩
          have hb := hw.below
          clear hw
          replace HT := Aside0.mk (Kd.C_below HT.out hb)
          replace HB := Aside0.mk (below_step HB.out hb)
          clear hb
          by_cases hn1 : n < 0
          · have d1 : decide (n < 0) = true := decide_eq_true hn1
            simp only [if_pos hn1] at hf
            go_wp2_with fail
            refine (hf _).mono ?_
            rintro e w57 ⟨rfl, hw⟩
            have hb := hw
            clear hw
            replace HT := Aside0.mk (Kd.C_below HT.out hb)
            replace HB := Aside0.mk (below_step HB.out hb)
            clear hb
            go_wp2_with fail
            refine (awake_any _ HT.out).mono ?_
            rintro e w58 ⟨rfl, hw⟩
            have hb := hw
            clear hw
            replace HT := Aside0.mk (Kd.C_below HT.out hb)
            replace HB := Aside0.mk (below_step HB.out hb)
            clear hb
            go_wp2
            go_ret
            exact ⟨rfl, HB.out⟩
          · have d1 : decide (n < 0) = false := decide_eq_false hn1
            simp only [if_neg hn1] at hf
            by_cases hn2 : n > 2560
            · have d2 : decide (n > 2560) = true := decide_eq_true hn2
              simp only [if_pos hn2] at hf
              go_wp2_with fail
              refine (hf _).mono ?_
              rintro e w59 ⟨rfl, hw⟩
              have hb := hw
              clear hw
              replace HT := Aside0.mk (Kd.C_below HT.out hb)
              replace HB := Aside0.mk (below_step HB.out hb)
              clear hb
              go_wp2_with fail
              refine (awake_any _ HT.out).mono ?_
              rintro e w60 ⟨rfl, hw⟩
              have hb := hw
              clear hw
              replace HT := Aside0.mk (Kd.C_below HT.out hb)
              replace HB := Aside0.mk (below_step HB.out hb)
              clear hb
              go_wp2
              go_ret
              exact ⟨rfl, HB.out⟩
            · have d2 : decide (n > 2560) = false := decide_eq_false hn2
              simp only [if_neg hn2] at hf
              obtain ⟨t1, t2, t3⟩ := for_tests hn1 hn2
              have t4 := for_tests2 hn1 hn2
              have hk := fun w hw => height_any (forR n 7 0) w hw
              simp only [t1, if_true] at hk
              by_cases hc : forR n 7 0 > 32
              · have d3 : decide (forR n 7 0 > 32) = true := decide_eq_true hc
                obtain ⟨x, hx, hx0⟩ := t2
                obtain ⟨hy, hy1⟩ := t4 hc
                have d4 : decide (x > 0) = false := hx0
                clear t1 t3 t4 hc hn1 hn2
                generalize hgt (forR n 7 0) = k at *
                generalize forR n 7 0 = c at *
                go_wp2_with fail
                refine (hf _).mono ?_
                rintro e w61 ⟨rfl, hw⟩
                have hb := hw
                clear hw
                replace HT := Aside0.mk (Kd.C_below HT.out hb)
                replace HB := Aside0.mk (below_step HB.out hb)
                clear hb
                go_wp2_with fail
                refine (hk _ HT.out).mono ?_
                rintro e w62 ⟨rfl, hw⟩
                have hb := hw.below
                clear hw
                replace HT := Aside0.mk (Kd.C_below HT.out hb)
                replace HB := Aside0.mk (below_step HB.out hb)
                clear hb
                go_wp2_with fail
                refine (hx _).mono ?_
                rintro e w63 ⟨rfl, hw⟩
                have hb := hw.below
                clear hw
                replace HT := Aside0.mk (Kd.C_below HT.out hb)
                replace HB := Aside0.mk (below_step HB.out hb)
                clear hb
                go_wp2_with fail
                refine (hy _).mono ?_
                rintro e w64 ⟨rfl, hw⟩
                have hb := hw.below
                clear hw
                replace HT := Aside0.mk (Kd.C_below HT.out hb)
                replace HB := Aside0.mk (below_step HB.out hb)
                clear hb
                go_wp2_with fail
                refine (awake_any _ HT.out).mono ?_
                rintro e w65 ⟨rfl, hw⟩
                have hb := hw
                clear hw
                replace HT := Aside0.mk (Kd.C_below HT.out hb)
                replace HB := Aside0.mk (below_step HB.out hb)
                clear hb
                go_wp2
                go_ret
                exact ⟨rfl, HB.out⟩
              · have d3 : decide (forR n 7 0 > 32) = false := decide_eq_false hc
                obtain ⟨x, hx, hx0⟩ := t2
                have d4 : decide (x > 0) = false := hx0
                clear t1 t3 t4 hc hn1 hn2
                generalize hgt (forR n 7 0) = k at *
                generalize forR n 7 0 = c at *
                go_wp2_with fail
                refine (hf _).mono ?_
                rintro e w66 ⟨rfl, hw⟩
                have hb := hw
                clear hw
                replace HT := Aside0.mk (Kd.C_below HT.out hb)
                replace HB := Aside0.mk (below_step HB.out hb)
                clear hb
                go_wp2_with fail
                refine (hk _ HT.out).mono ?_
                rintro e w67 ⟨rfl, hw⟩
                have hb := hw.below
                clear hw
                replace HT := Aside0.mk (Kd.C_below HT.out hb)
                replace HB := Aside0.mk (below_step HB.out hb)
                clear hb
                go_wp2_with fail
                refine (hx _).mono ?_
                rintro e w68 ⟨rfl, hw⟩
                have hb := hw.below
                clear hw
                replace HT := Aside0.mk (Kd.C_below HT.out hb)
                replace HB := Aside0.mk (below_step HB.out hb)
                clear hb
                go_wp2_with fail
                refine (awake_any _ HT.out).mono ?_
                rintro e w69 ⟨rfl, hw⟩
                have hb := hw
                clear hw
                replace HT := Aside0.mk (Kd.C_below HT.out hb)
                replace HB := Aside0.mk (below_step HB.out hb)
                clear hb
                go_wp2
                go_ret
                exact ⟨rfl, HB.out⟩
      · have c3 : decide (h < 9) = false := decide_eq_false hl
        have hg : h > 2 := by omega
        have c4 : decide (h > 2) = true := decide_eq_true hg
        obtain ⟨g1, g2, g3, g4, g5⟩ := hlo hg
        clear hnx hlo hb4 h2 h9 hl hg
        generalize upN h h = a at *
        generalize loN h h = b at *
        go_enter Tryd.func8, Tryd.ntmps8
        go_wp2_with fail
        refine (hu _).mono ?_
        rintro e w70 ⟨rfl, hw⟩
        have hb := hw.below
        clear hw
        replace HT := Aside0.mk (Kd.C_below HT.out hb)
        replace HB := Aside0.mk (below_step HB.out hb)
        clear hb
        go_wp2_with fail
        refine (ho _).mono ?_
        rintro e w71 ⟨rfl, hw⟩
        have hb := hw.below
        clear hw
        replace HT := Aside0.mk (Kd.C_below HT.out hb)
        replace HB := Aside0.mk (below_step HB.out hb)
        clear hb
        go_wp2_with fail
        refine (hb1 _).mono ?_
        rintro e w72 ⟨rfl, hw⟩
        have hb := hw.below
        clear hw
        replace HT := Aside0.mk (Kd.C_below HT.out hb)
        replace HB := Aside0.mk (below_step HB.out hb)
        clear hb
        go_wp2_with fail
        refine (hb2 _).mono ?_
        rintro e w73 ⟨rfl, hw⟩
        have hb := hw.below
        clear hw
        replace HT := Aside0.mk (Kd.C_below HT.out hb)
        replace HB := Aside0.mk (below_step HB.out hb)
        clear hb
        go_wp2_with fail
        refine (g1 _).mono ?_
        rintro e w74 ⟨rfl, hw⟩
        have hb := hw.below
        clear hw
        replace HT := Aside0.mk (Kd.C_below HT.out hb)
        replace HB := Aside0.mk (below_step HB.out hb)
        clear hb
        go_wp2_with fail
        refine (g2 _).mono ?_
        rintro e w75 ⟨rfl, hw⟩
        have hb := hw.below
        clear hw
        replace HT := Aside0.mk (Kd.C_below HT.out hb)
        replace HB := Aside0.mk (below_step HB.out hb)
        clear hb
        go_wp2_with fail
        refine (g3 _).mono ?_
        rintro e w76 ⟨rfl, hw⟩
        have hb := hw.below
        clear hw
        replace HT := Aside0.mk (Kd.C_below HT.out hb)
        replace HB := Aside0.mk (below_step HB.out hb)
        clear hb
        by_cases hn1 : n < 0
        · have d1 : decide (n < 0) = true := decide_eq_true hn1
          simp only [if_pos hn1] at hf
          go_wp2_with fail
          refine (hf _).mono ?_
          rintro e w77 ⟨rfl, hw⟩
          have hb := hw
          clear hw
          replace HT := Aside0.mk (Kd.C_below HT.out hb)
          replace HB := Aside0.mk (below_step HB.out hb)
          clear hb
          go_wp2_with fail
          refine (awake_any _ HT.out).mono ?_
          rintro e w78 ⟨rfl, hw⟩
          have hb := hw
          clear hw
          replace HT := Aside0.mk (Kd.C_below HT.out hb)
          replace HB := Aside0.mk (below_step HB.out hb)
          clear hb
          go_wp2
          go_ret
          exact ⟨rfl, HB.out⟩
        · have d1 : decide (n < 0) = false := decide_eq_false hn1
          simp only [if_neg hn1] at hf
          by_cases hn2 : n > 2560
          · have d2 : decide (n > 2560) = true := decide_eq_true hn2
            simp only [if_pos hn2] at hf
            go_wp2_with fail
            refine (hf _).mono ?_
            rintro e w79 ⟨rfl, hw⟩
            have hb := hw
            clear hw
            replace HT := Aside0.mk (Kd.C_below HT.out hb)
            replace HB := Aside0.mk (below_step HB.out hb)
            clear hb
            go_wp2_with fail
            refine (awake_any _ HT.out).mono ?_
            rintro e w80 ⟨rfl, hw⟩
            have hb := hw
            clear hw
            replace HT := Aside0.mk (Kd.C_below HT.out hb)
            replace HB := Aside0.mk (below_step HB.out hb)
            clear hb
            go_wp2
            go_ret
            exact ⟨rfl, HB.out⟩
          · have d2 : decide (n > 2560) = false := decide_eq_false hn2
            simp only [if_neg hn2] at hf
            obtain ⟨t1, t2, t3⟩ := for_tests hn1 hn2
            have t4 := for_tests2 hn1 hn2
            have hk := fun w hw => height_any (forR n 7 0) w hw
            simp only [t1, if_true] at hk
            by_cases hc : forR n 7 0 > 32
            · have d3 : decide (forR n 7 0 > 32) = true := decide_eq_true hc
              obtain ⟨x, hx, hx0⟩ := t2
              obtain ⟨hy, hy1⟩ := t4 hc
              have d4 : decide (x > 0) = false := hx0
              clear t1 t3 t4 hc hn1 hn2
              generalize hgt (forR n 7 0) = k at *
              generalize forR n 7 0 = c at *
              go_wp2_with fail
              refine (hf _).mono ?_
              rintro e w81 ⟨rfl, hw⟩
              have hb := hw
              clear hw
              replace HT := Aside0.mk (Kd.C_below HT.out hb)
              replace HB := Aside0.mk (below_step HB.out hb)
              clear hb
              go_wp2_with fail
              refine (hk _ HT.out).mono ?_
              rintro e w82 ⟨rfl, hw⟩
              have hb := hw.below
              clear hw
              replace HT := Aside0.mk (Kd.C_below HT.out hb)
              replace HB := Aside0.mk (below_step HB.out hb)
              clear hb
              go_wp2_with fail
              refine (hx _).mono ?_
              rintro e w83 ⟨rfl, hw⟩
              have hb := hw.below
              clear hw
              replace HT := Aside0.mk (Kd.C_below HT.out hb)
              replace HB := Aside0.mk (below_step HB.out hb)
              clear hb
              go_wp2_with fail
              refine (hy _).mono ?_
              rintro e w84 ⟨rfl, hw⟩
              have hb := hw.below
              clear hw
              replace HT := Aside0.mk (Kd.C_below HT.out hb)
              replace HB := Aside0.mk (below_step HB.out hb)
              clear hb
              go_wp2_with fail
              refine (awake_any _ HT.out).mono ?_
              rintro e w85 ⟨rfl, hw⟩
              have hb := hw
              clear hw
              replace HT := Aside0.mk (Kd.C_below HT.out hb)
              replace HB := Aside0.mk (below_step HB.out hb)
              clear hb
              go_wp2
              go_ret
              exact ⟨rfl, HB.out⟩
            · have d3 : decide (forR n 7 0 > 32) = false := decide_eq_false hc
              obtain ⟨x, hx, hx0⟩ := t2
              have d4 : decide (x > 0) = false := hx0
              clear t1 t3 t4 hc hn1 hn2
              generalize hgt (forR n 7 0) = k at *
              generalize forR n 7 0 = c at *
              go_wp2_with fail
              refine (hf _).mono ?_
              rintro e w86 ⟨rfl, hw⟩
              have hb := hw
              clear hw
              replace HT := Aside0.mk (Kd.C_below HT.out hb)
              replace HB := Aside0.mk (below_step HB.out hb)
              clear hb
              go_wp2_with fail
              refine (hk _ HT.out).mono ?_
              rintro e w87 ⟨rfl, hw⟩
              have hb := hw.below
              clear hw
              replace HT := Aside0.mk (Kd.C_below HT.out hb)
              replace HB := Aside0.mk (below_step HB.out hb)
              clear hb
              go_wp2_with fail
              refine (hx _).mono ?_
              rintro e w88 ⟨rfl, hw⟩
              have hb := hw.below
              clear hw
              replace HT := Aside0.mk (Kd.C_below HT.out hb)
              replace HB := Aside0.mk (below_step HB.out hb)
              clear hb
              go_wp2_with fail
              refine (awake_any _ HT.out).mono ?_
              rintro e w89 ⟨rfl, hw⟩
              have hb := hw
              clear hw
              replace HT := Aside0.mk (Kd.C_below HT.out hb)
              replace HB := Aside0.mk (below_step HB.out hb)
              clear hb
              go_wp2
              go_ret
              exact ⟨rfl, HB.out⟩
end Go.Proofs.YtlaegahdignphaaDoor.L7
