/- The law LevelNests walked: it returns true; whatever the numbers. -/
import Derived.Test.YtlaegahdignphaaDoorL5
namespace Go.Proofs.YtlaegahdignphaaDoor.L6
open Go.RowKit Go.Proofs.YtlaegahdignphaaDoorW.PrintWords Go.Proofs.YtlaegahdignphaaDoorW.PrintLast Go.Proofs.YtlaegahdignphaaDoorW.PrintMore Q1 L1 L3 L5
set_option linter.unusedVariables false
set_option linter.unusedSimpArgs false

theorem upN_top {l h : Int} (hm : mayB l h = true) : (1 : Int) ≤ 2 ^ l.toNat ∧ (2 : Int) ^ l.toNat ≤ 512 :=
  dom (p := fun l _ => (1 : Int) ≤ 2 ^ l.toNat ∧ (2 : Int) ^ l.toNat ≤ 512) (by decide +kernel) hm
theorem win_tests {s l : Int} (hc : winB s l = true) : decide (s < wFirst s l) = false ∧ decide (s ≥ wFirst s l + wMany l) = false ∧ IntKind.i64.wrap (l + 1) = l + 1 := by
  have hd := of_decide_eq_true hc
  obtain ⟨f1, f2, _⟩ := nests_win hc
  exact ⟨decide_eq_false (by omega), decide_eq_false (by omega), wr64 (by omega) (by omega)⟩
theorem win_nine {s l : Int} (h9 : l = 9) : winB s (l + 1) = false := decide_eq_false (by omega)
theorem win_less {s l : Int} (hc : winB s l = true) (h9 : l ≠ 9) : winB s (l + 1) = true ∧ (0 ≤ l) = True ∧ l ≤ 64 ∧ l < 9 := by
  have hd := of_decide_eq_true hc
  exact ⟨decide_eq_true (by omega), eq_true (by omega), by omega, by omega⟩
set_option maxRecDepth 100000 in
set_option maxHeartbeats 2000000 in
theorem nests_any (s : Int) (ws : (Lit.int .i64 s).wf = true) (l : Int) (wl : (Lit.int .i64 l).wf = true) (h : Int) (wh : (Lit.int .i64 h).wf = true) (W : World) (hT : Tb W) : Calls Tryd.prog 6 #[.int .i64 s, .int .i64 l, .int .i64 h] W fun e w' => e = .returned (.bool true) ∧ Below W.heap.size W w' := by
  have HT := Aside0.mk hT
  have HB := Aside0.mk (Below.refl W.heap.size W)
  clear hT ws wl wh
  have hw := fun w => window_any s l w
  have hu := fun w => upper_any l h w
  have ho := fun w => lower_any l h w
  cases hm : mayB l h with
  | false =>
    simp only [upN, loN, erN, hm, Bool.false_eq_true, if_false] at hu ho
    clear hm
    go_enter Tryd.func6, Tryd.ntmps6
    go_wp2_with fail
    refine (hu _).mono ?_
    rintro e w1 ⟨rfl, hw⟩
    have hb := hw.below
    clear hw
    replace HT := Aside0.mk (Kd.C_below HT.out hb)
    replace HB := Aside0.mk (below_step HB.out hb)
    clear hb
    go_wp2_with fail
    refine (ho _).mono ?_
    rintro e w2 ⟨rfl, hw⟩
    have hb := hw.below
    clear hw
    replace HT := Aside0.mk (Kd.C_below HT.out hb)
    replace HB := Aside0.mk (below_step HB.out hb)
    clear hb
    cases hc : winB s l with
    | false =>
      simp only [winF, winM, winE, hc, Bool.false_eq_true, if_false] at hw
      go_wp2_with fail
      refine (hw _).mono ?_
      rintro e w3 ⟨rfl, hw⟩
      have hb := hw.below
      clear hw
      replace HT := Aside0.mk (Kd.C_below HT.out hb)
      replace HB := Aside0.mk (below_step HB.out hb)
      clear hb
      go_wp2_with fail
      refine (awake_any _ HT.out).mono ?_
      rintro e w4 ⟨rfl, hw⟩
      have hb := hw
      clear hw
      replace HT := Aside0.mk (Kd.C_below HT.out hb)
      replace HB := Aside0.mk (below_step HB.out hb)
      clear hb
      go_wp2
      go_ret
      exact ⟨rfl, HB.out⟩
    | true =>
      obtain ⟨f1, f2, f3, f4, f5, f6⟩ := nests_win hc
      obtain ⟨c10, c11, hl1⟩ := win_tests hc
      have hx := fun w => window_any s (l + 1) w
      have hg := Aside0.mk (fun hl9 => nests_half hc hl9)
      have F5 := Aside0.mk f5
      clear f1 f2 f5
      simp only [winF, winM, winE, hc, if_true] at hw
      by_cases h9 : l = 9
      · have hn := win_nine (s := s) h9
        simp only [winF, winM, winE, hn, Bool.false_eq_true, if_false] at hx
        have c12 : (l == 9) = true := by simp [h9]
        clear hg hn h9 hc F5
        generalize wFirst s l = a at *
        generalize wMany l = b at *
        go_wp2_with fail
        refine (hw _).mono ?_
        rintro e w5 ⟨rfl, hw⟩
        have hb := hw.below
        clear hw
        replace HT := Aside0.mk (Kd.C_below HT.out hb)
        replace HB := Aside0.mk (below_step HB.out hb)
        clear hb
        go_wp2_with fail
        refine (hx _).mono ?_
        rintro e w6 ⟨rfl, hw⟩
        have hb := hw.below
        clear hw
        replace HT := Aside0.mk (Kd.C_below HT.out hb)
        replace HB := Aside0.mk (below_step HB.out hb)
        clear hb
        go_wp2_with fail
        refine (awake_any _ HT.out).mono ?_
        rintro e w7 ⟨rfl, hw⟩
        have hb := hw
        clear hw
        replace HT := Aside0.mk (Kd.C_below HT.out hb)
        replace HB := Aside0.mk (below_step HB.out hb)
        clear hb
        go_wp2
        go_ret
        exact ⟨rfl, HB.out⟩
      · obtain ⟨hn, c14, c15, hl9⟩ := win_less hc h9
        simp only [winF, winM, winE, hn, if_true, F5.out] at hx
        have c12 : (l == 9) = false := beq_eq_false_iff_ne.2 h9
        have hg := hg.out hl9
        clear hn h9 hc F5 hl9
        rcases hg with e | ⟨hne, he, e⟩
        · rw [e] at hx
          generalize wFirst s l = a at *
          generalize wMany l = b at *
          clear e
          go_wp2_with fail
          refine (hw _).mono ?_
          rintro e w8 ⟨rfl, hw⟩
          have hb := hw.below
          clear hw
          replace HT := Aside0.mk (Kd.C_below HT.out hb)
          replace HB := Aside0.mk (below_step HB.out hb)
          clear hb
          go_wp2_with fail
          refine (hx _).mono ?_
          rintro e w9 ⟨rfl, hw⟩
          have hb := hw.below
          clear hw
          replace HT := Aside0.mk (Kd.C_below HT.out hb)
          replace HB := Aside0.mk (below_step HB.out hb)
          clear hb
          go_wp2_with fail
          refine (awake_any _ HT.out).mono ?_
          rintro e w10 ⟨rfl, hw⟩
          have hb := hw
          clear hw
          replace HT := Aside0.mk (Kd.C_below HT.out hb)
          replace HB := Aside0.mk (below_step HB.out hb)
          clear hb
          go_wp2
          go_ret
          exact ⟨rfl, HB.out⟩
        · have c13 : (wFirst s (l + 1) == wFirst s l) = false := beq_eq_false_iff_ne.2 hne
          have c16 : (wFirst s (l + 1) + wMany l == wFirst s l) = true := by simp [he]
          rw [← he] at e
          clear hne he
          generalize wFirst s (l + 1) = a2 at *
          generalize wFirst s l = a at *
          generalize wMany l = b at *
          go_wp2_with fail
          refine (hw _).mono ?_
          rintro e w11 ⟨rfl, hw⟩
          have hb := hw.below
          clear hw
          replace HT := Aside0.mk (Kd.C_below HT.out hb)
          replace HB := Aside0.mk (below_step HB.out hb)
          clear hb
          go_wp2_with fail
          refine (hx _).mono ?_
          rintro e w12 ⟨rfl, hw⟩
          have hb := hw.below
          clear hw
          replace HT := Aside0.mk (Kd.C_below HT.out hb)
          replace HB := Aside0.mk (below_step HB.out hb)
          clear hb
          go_wp2_with fail
          refine (awake_any _ HT.out).mono ?_
          rintro e w13 ⟨rfl, hw⟩
          have hb := hw
          clear hw
          replace HT := Aside0.mk (Kd.C_below HT.out hb)
          replace HB := Aside0.mk (below_step HB.out hb)
          clear hb
          go_wp2
          go_ret
          exact ⟨rfl, HB.out⟩
  | true =>
    have hmd := of_decide_eq_true hm
    obtain ⟨u1, u2, u3, u4, u5, u6⟩ := nests_up hm
    have hu2 := fun w => upper_any (l + 1) h w
    have ho2 := fun w => lower_any (l + 1) h w
    have hl1 : IntKind.i64.wrap (l + 1) = l + 1 := wr64 (by omega) (by omega)
    have c0 : (0 ≤ l) = True := eq_true (by omega)
    have c00 : l ≤ 64 := by omega
    have c1 : decide (wrap64 (7 * wrap64 (2 ^ l.toNat)) < upN l h) = false := by
      rw [u1, show wrap64 (7 * 2 ^ l.toNat) = 7 * 2 ^ l.toNat by unfold wrap64; have := upN_top hm; omega]
      exact decide_eq_false (by omega)
    have c2 : decide (loN l h < 0) = false := decide_eq_false (by omega)
    have c3 : decide (loN l h > upN l h) = false := decide_eq_false (by omega)
    simp only [erN, hm, if_true] at hu ho
    by_cases hlt : l < h
    · have c6 : decide (l < h) = true := decide_eq_true hlt
      obtain ⟨m1, m2, m3, m4, m5, m6, m7⟩ := nests_next hm hlt
      have me : erN (l + 1) h = 0 := by simp [erN, m1]
      have c7 : decide (upN (l + 1) h > 2 * upN l h + 1) = false := decide_eq_false (by omega)
      rw [me] at hu2 ho2
      have c8 : decide (loN (l + 1) h < 2 * loN l h - 1) = false := decide_eq_false (by omega)
      clear m1 m4 m7
      by_cases h2 : h > 2
      · have c4 : decide (h > 2) = true := decide_eq_true h2
        have c5 : decide (loN l h < wrap64 (2 ^ l.toNat)) = false := by rw [u1]; exact decide_eq_false (by omega)
        skip
        generalize upN l h = a0 at *
        generalize loN l h = b0 at *
        generalize upN (l + 1) h = a1 at *
        generalize loN (l + 1) h = b1 at *
        generalize erN (l + 1) h = e1 at *
        clear hm hmd u1 u2 u3 u4 u5 u6
        go_enter Tryd.func6, Tryd.ntmps6
        go_wp2_with fail
        refine (hu _).mono ?_
        rintro e w14 ⟨rfl, hw⟩
        have hb := hw.below
        clear hw
        replace HT := Aside0.mk (Kd.C_below HT.out hb)
        replace HB := Aside0.mk (below_step HB.out hb)
        clear hb
        go_wp2_with fail
        refine (ho _).mono ?_
        rintro e w15 ⟨rfl, hw⟩
        have hb := hw.below
        clear hw
        replace HT := Aside0.mk (Kd.C_below HT.out hb)
        replace HB := Aside0.mk (below_step HB.out hb)
        clear hb
        go_wp2_with fail
        refine (hu2 _).mono ?_
        rintro e w16 ⟨rfl, hw⟩
        have hb := hw.below
        clear hw
        replace HT := Aside0.mk (Kd.C_below HT.out hb)
        replace HB := Aside0.mk (below_step HB.out hb)
        clear hb
        go_wp2_with fail
        refine (ho2 _).mono ?_
        rintro e w17 ⟨rfl, hw⟩
        have hb := hw.below
        clear hw
        replace HT := Aside0.mk (Kd.C_below HT.out hb)
        replace HB := Aside0.mk (below_step HB.out hb)
        clear hb
        cases hc : winB s l with
        | false =>
          simp only [winF, winM, winE, hc, Bool.false_eq_true, if_false] at hw
          go_wp2_with fail
          refine (hw _).mono ?_
          rintro e w18 ⟨rfl, hw⟩
          have hb := hw.below
          clear hw
          replace HT := Aside0.mk (Kd.C_below HT.out hb)
          replace HB := Aside0.mk (below_step HB.out hb)
          clear hb
          go_wp2_with fail
          refine (awake_any _ HT.out).mono ?_
          rintro e w19 ⟨rfl, hw⟩
          have hb := hw
          clear hw
          replace HT := Aside0.mk (Kd.C_below HT.out hb)
          replace HB := Aside0.mk (below_step HB.out hb)
          clear hb
          go_wp2
          go_ret
          exact ⟨rfl, HB.out⟩
        | true =>
          obtain ⟨f1, f2, f3, f4, f5, f6⟩ := nests_win hc
          obtain ⟨c10, c11, hl1⟩ := win_tests hc
          have hx := fun w => window_any s (l + 1) w
          have hg := Aside0.mk (fun hl9 => nests_half hc hl9)
          have F5 := Aside0.mk f5
          clear f1 f2 f5
          simp only [winF, winM, winE, hc, if_true] at hw
          by_cases h9 : l = 9
          · have hn := win_nine (s := s) h9
            simp only [winF, winM, winE, hn, Bool.false_eq_true, if_false] at hx
            have c12 : (l == 9) = true := by simp [h9]
            clear hg hn h9 hc F5
            generalize wFirst s l = a at *
            generalize wMany l = b at *
            go_wp2_with fail
            refine (hw _).mono ?_
            rintro e w20 ⟨rfl, hw⟩
            have hb := hw.below
            clear hw
            replace HT := Aside0.mk (Kd.C_below HT.out hb)
            replace HB := Aside0.mk (below_step HB.out hb)
            clear hb
            go_wp2_with fail
            refine (hx _).mono ?_
            rintro e w21 ⟨rfl, hw⟩
            have hb := hw.below
            clear hw
            replace HT := Aside0.mk (Kd.C_below HT.out hb)
            replace HB := Aside0.mk (below_step HB.out hb)
            clear hb
            go_wp2_with fail
            refine (awake_any _ HT.out).mono ?_
            rintro e w22 ⟨rfl, hw⟩
            have hb := hw
            clear hw
            replace HT := Aside0.mk (Kd.C_below HT.out hb)
            replace HB := Aside0.mk (below_step HB.out hb)
            clear hb
            go_wp2
            go_ret
            exact ⟨rfl, HB.out⟩
          · obtain ⟨hn, c14, c15, hl9⟩ := win_less hc h9
            simp only [winF, winM, winE, hn, if_true, F5.out] at hx
            have c12 : (l == 9) = false := beq_eq_false_iff_ne.2 h9
            have hg := hg.out hl9
            clear hn h9 hc F5 hl9
            rcases hg with e | ⟨hne, he, e⟩
            · rw [e] at hx
              generalize wFirst s l = a at *
              generalize wMany l = b at *
              clear e
              go_wp2_with fail
              refine (hw _).mono ?_
              rintro e w23 ⟨rfl, hw⟩
              have hb := hw.below
              clear hw
              replace HT := Aside0.mk (Kd.C_below HT.out hb)
              replace HB := Aside0.mk (below_step HB.out hb)
              clear hb
              go_wp2_with fail
              refine (hx _).mono ?_
              rintro e w24 ⟨rfl, hw⟩
              have hb := hw.below
              clear hw
              replace HT := Aside0.mk (Kd.C_below HT.out hb)
              replace HB := Aside0.mk (below_step HB.out hb)
              clear hb
              go_wp2_with fail
              refine (awake_any _ HT.out).mono ?_
              rintro e w25 ⟨rfl, hw⟩
              have hb := hw
              clear hw
              replace HT := Aside0.mk (Kd.C_below HT.out hb)
              replace HB := Aside0.mk (below_step HB.out hb)
              clear hb
              go_wp2
              go_ret
              exact ⟨rfl, HB.out⟩
            · have c13 : (wFirst s (l + 1) == wFirst s l) = false := beq_eq_false_iff_ne.2 hne
              have c16 : (wFirst s (l + 1) + wMany l == wFirst s l) = true := by simp [he]
              rw [← he] at e
              clear hne he
              generalize wFirst s (l + 1) = a2 at *
              generalize wFirst s l = a at *
              generalize wMany l = b at *
              go_wp2_with fail
              refine (hw _).mono ?_
              rintro e w26 ⟨rfl, hw⟩
              have hb := hw.below
              clear hw
              replace HT := Aside0.mk (Kd.C_below HT.out hb)
              replace HB := Aside0.mk (below_step HB.out hb)
              clear hb
              go_wp2_with fail
              refine (hx _).mono ?_
              rintro e w27 ⟨rfl, hw⟩
              have hb := hw.below
              clear hw
              replace HT := Aside0.mk (Kd.C_below HT.out hb)
              replace HB := Aside0.mk (below_step HB.out hb)
              clear hb
              go_wp2_with fail
              refine (awake_any _ HT.out).mono ?_
              rintro e w28 ⟨rfl, hw⟩
              have hb := hw
              clear hw
              replace HT := Aside0.mk (Kd.C_below HT.out hb)
              replace HB := Aside0.mk (below_step HB.out hb)
              clear hb
              go_wp2
              go_ret
              exact ⟨rfl, HB.out⟩
      · have c4 : decide (h > 2) = false := decide_eq_false h2
        skip
        generalize upN l h = a0 at *
        generalize loN l h = b0 at *
        generalize upN (l + 1) h = a1 at *
        generalize loN (l + 1) h = b1 at *
        generalize erN (l + 1) h = e1 at *
        clear hm hmd u1 u2 u3 u4 u5 u6
        go_enter Tryd.func6, Tryd.ntmps6
        go_wp2_with fail
        refine (hu _).mono ?_
        rintro e w29 ⟨rfl, hw⟩
        have hb := hw.below
        clear hw
        replace HT := Aside0.mk (Kd.C_below HT.out hb)
        replace HB := Aside0.mk (below_step HB.out hb)
        clear hb
        go_wp2_with fail
        refine (ho _).mono ?_
        rintro e w30 ⟨rfl, hw⟩
        have hb := hw.below
        clear hw
        replace HT := Aside0.mk (Kd.C_below HT.out hb)
        replace HB := Aside0.mk (below_step HB.out hb)
        clear hb
        go_wp2_with fail
        refine (hu2 _).mono ?_
        rintro e w31 ⟨rfl, hw⟩
        have hb := hw.below
        clear hw
        replace HT := Aside0.mk (Kd.C_below HT.out hb)
        replace HB := Aside0.mk (below_step HB.out hb)
        clear hb
        go_wp2_with fail
        refine (ho2 _).mono ?_
        rintro e w32 ⟨rfl, hw⟩
        have hb := hw.below
        clear hw
        replace HT := Aside0.mk (Kd.C_below HT.out hb)
        replace HB := Aside0.mk (below_step HB.out hb)
        clear hb
        cases hc : winB s l with
        | false =>
          simp only [winF, winM, winE, hc, Bool.false_eq_true, if_false] at hw
          go_wp2_with fail
          refine (hw _).mono ?_
          rintro e w33 ⟨rfl, hw⟩
          have hb := hw.below
          clear hw
          replace HT := Aside0.mk (Kd.C_below HT.out hb)
          replace HB := Aside0.mk (below_step HB.out hb)
          clear hb
          go_wp2_with fail
          refine (awake_any _ HT.out).mono ?_
          rintro e w34 ⟨rfl, hw⟩
          have hb := hw
          clear hw
          replace HT := Aside0.mk (Kd.C_below HT.out hb)
          replace HB := Aside0.mk (below_step HB.out hb)
          clear hb
          go_wp2
          go_ret
          exact ⟨rfl, HB.out⟩
        | true =>
          obtain ⟨f1, f2, f3, f4, f5, f6⟩ := nests_win hc
          obtain ⟨c10, c11, hl1⟩ := win_tests hc
          have hx := fun w => window_any s (l + 1) w
          have hg := Aside0.mk (fun hl9 => nests_half hc hl9)
          have F5 := Aside0.mk f5
          clear f1 f2 f5
          simp only [winF, winM, winE, hc, if_true] at hw
          by_cases h9 : l = 9
          · have hn := win_nine (s := s) h9
            simp only [winF, winM, winE, hn, Bool.false_eq_true, if_false] at hx
            have c12 : (l == 9) = true := by simp [h9]
            clear hg hn h9 hc F5
            generalize wFirst s l = a at *
            generalize wMany l = b at *
            go_wp2_with fail
            refine (hw _).mono ?_
            rintro e w35 ⟨rfl, hw⟩
            have hb := hw.below
            clear hw
            replace HT := Aside0.mk (Kd.C_below HT.out hb)
            replace HB := Aside0.mk (below_step HB.out hb)
            clear hb
            go_wp2_with fail
            refine (hx _).mono ?_
            rintro e w36 ⟨rfl, hw⟩
            have hb := hw.below
            clear hw
            replace HT := Aside0.mk (Kd.C_below HT.out hb)
            replace HB := Aside0.mk (below_step HB.out hb)
            clear hb
            go_wp2_with fail
            refine (awake_any _ HT.out).mono ?_
            rintro e w37 ⟨rfl, hw⟩
            have hb := hw
            clear hw
            replace HT := Aside0.mk (Kd.C_below HT.out hb)
            replace HB := Aside0.mk (below_step HB.out hb)
            clear hb
            go_wp2
            go_ret
            exact ⟨rfl, HB.out⟩
          · obtain ⟨hn, c14, c15, hl9⟩ := win_less hc h9
            simp only [winF, winM, winE, hn, if_true, F5.out] at hx
            have c12 : (l == 9) = false := beq_eq_false_iff_ne.2 h9
            have hg := hg.out hl9
            clear hn h9 hc F5 hl9
            rcases hg with e | ⟨hne, he, e⟩
            · rw [e] at hx
              generalize wFirst s l = a at *
              generalize wMany l = b at *
              clear e
              go_wp2_with fail
              refine (hw _).mono ?_
              rintro e w38 ⟨rfl, hw⟩
              have hb := hw.below
              clear hw
              replace HT := Aside0.mk (Kd.C_below HT.out hb)
              replace HB := Aside0.mk (below_step HB.out hb)
              clear hb
              go_wp2_with fail
              refine (hx _).mono ?_
              rintro e w39 ⟨rfl, hw⟩
              have hb := hw.below
              clear hw
              replace HT := Aside0.mk (Kd.C_below HT.out hb)
              replace HB := Aside0.mk (below_step HB.out hb)
              clear hb
              go_wp2_with fail
              refine (awake_any _ HT.out).mono ?_
              rintro e w40 ⟨rfl, hw⟩
              have hb := hw
              clear hw
              replace HT := Aside0.mk (Kd.C_below HT.out hb)
              replace HB := Aside0.mk (below_step HB.out hb)
              clear hb
              go_wp2
              go_ret
              exact ⟨rfl, HB.out⟩
            · have c13 : (wFirst s (l + 1) == wFirst s l) = false := beq_eq_false_iff_ne.2 hne
              have c16 : (wFirst s (l + 1) + wMany l == wFirst s l) = true := by simp [he]
              rw [← he] at e
              clear hne he
              generalize wFirst s (l + 1) = a2 at *
              generalize wFirst s l = a at *
              generalize wMany l = b at *
              go_wp2_with fail
              refine (hw _).mono ?_
              rintro e w41 ⟨rfl, hw⟩
              have hb := hw.below
              clear hw
              replace HT := Aside0.mk (Kd.C_below HT.out hb)
              replace HB := Aside0.mk (below_step HB.out hb)
              clear hb
              go_wp2_with fail
              refine (hx _).mono ?_
              rintro e w42 ⟨rfl, hw⟩
              have hb := hw.below
              clear hw
              replace HT := Aside0.mk (Kd.C_below HT.out hb)
              replace HB := Aside0.mk (below_step HB.out hb)
              clear hb
              go_wp2_with fail
              refine (awake_any _ HT.out).mono ?_
              rintro e w43 ⟨rfl, hw⟩
              have hb := hw
              clear hw
              replace HT := Aside0.mk (Kd.C_below HT.out hb)
              replace HB := Aside0.mk (below_step HB.out hb)
              clear hb
              go_wp2
              go_ret
              exact ⟨rfl, HB.out⟩
    · have c6 : decide (l < h) = false := decide_eq_false hlt
      by_cases h2 : h > 2
      · have c4 : decide (h > 2) = true := decide_eq_true h2
        have c5 : decide (loN l h < wrap64 (2 ^ l.toNat)) = false := by rw [u1]; exact decide_eq_false (by omega)
        skip
        generalize upN l h = a0 at *
        generalize loN l h = b0 at *
        generalize upN (l + 1) h = a1 at *
        generalize loN (l + 1) h = b1 at *
        generalize erN (l + 1) h = e1 at *
        clear hm hmd u1 u2 u3 u4 u5 u6
        go_enter Tryd.func6, Tryd.ntmps6
        go_wp2_with fail
        refine (hu _).mono ?_
        rintro e w44 ⟨rfl, hw⟩
        have hb := hw.below
        clear hw
        replace HT := Aside0.mk (Kd.C_below HT.out hb)
        replace HB := Aside0.mk (below_step HB.out hb)
        clear hb
        go_wp2_with fail
        refine (ho _).mono ?_
        rintro e w45 ⟨rfl, hw⟩
        have hb := hw.below
        clear hw
        replace HT := Aside0.mk (Kd.C_below HT.out hb)
        replace HB := Aside0.mk (below_step HB.out hb)
        clear hb
        go_wp2_with fail
        refine (hu2 _).mono ?_
        rintro e w46 ⟨rfl, hw⟩
        have hb := hw.below
        clear hw
        replace HT := Aside0.mk (Kd.C_below HT.out hb)
        replace HB := Aside0.mk (below_step HB.out hb)
        clear hb
        go_wp2_with fail
        refine (ho2 _).mono ?_
        rintro e w47 ⟨rfl, hw⟩
        have hb := hw.below
        clear hw
        replace HT := Aside0.mk (Kd.C_below HT.out hb)
        replace HB := Aside0.mk (below_step HB.out hb)
        clear hb
        cases hc : winB s l with
        | false =>
          simp only [winF, winM, winE, hc, Bool.false_eq_true, if_false] at hw
          go_wp2_with fail
          refine (hw _).mono ?_
          rintro e w48 ⟨rfl, hw⟩
          have hb := hw.below
          clear hw
          replace HT := Aside0.mk (Kd.C_below HT.out hb)
          replace HB := Aside0.mk (below_step HB.out hb)
          clear hb
          go_wp2_with fail
          refine (awake_any _ HT.out).mono ?_
          rintro e w49 ⟨rfl, hw⟩
          have hb := hw
          clear hw
          replace HT := Aside0.mk (Kd.C_below HT.out hb)
          replace HB := Aside0.mk (below_step HB.out hb)
          clear hb
          go_wp2
          go_ret
          exact ⟨rfl, HB.out⟩
        | true =>
          obtain ⟨f1, f2, f3, f4, f5, f6⟩ := nests_win hc
          obtain ⟨c10, c11, hl1⟩ := win_tests hc
          have hx := fun w => window_any s (l + 1) w
          have hg := Aside0.mk (fun hl9 => nests_half hc hl9)
          have F5 := Aside0.mk f5
          clear f1 f2 f5
          simp only [winF, winM, winE, hc, if_true] at hw
          by_cases h9 : l = 9
          · have hn := win_nine (s := s) h9
            simp only [winF, winM, winE, hn, Bool.false_eq_true, if_false] at hx
            have c12 : (l == 9) = true := by simp [h9]
            clear hg hn h9 hc F5
            generalize wFirst s l = a at *
            generalize wMany l = b at *
            go_wp2_with fail
            refine (hw _).mono ?_
            rintro e w50 ⟨rfl, hw⟩
            have hb := hw.below
            clear hw
            replace HT := Aside0.mk (Kd.C_below HT.out hb)
            replace HB := Aside0.mk (below_step HB.out hb)
            clear hb
            go_wp2_with fail
            refine (hx _).mono ?_
            rintro e w51 ⟨rfl, hw⟩
            have hb := hw.below
            clear hw
            replace HT := Aside0.mk (Kd.C_below HT.out hb)
            replace HB := Aside0.mk (below_step HB.out hb)
            clear hb
            go_wp2_with fail
            refine (awake_any _ HT.out).mono ?_
            rintro e w52 ⟨rfl, hw⟩
            have hb := hw
            clear hw
            replace HT := Aside0.mk (Kd.C_below HT.out hb)
            replace HB := Aside0.mk (below_step HB.out hb)
            clear hb
            go_wp2
            go_ret
            exact ⟨rfl, HB.out⟩
          · obtain ⟨hn, c14, c15, hl9⟩ := win_less hc h9
            simp only [winF, winM, winE, hn, if_true, F5.out] at hx
            have c12 : (l == 9) = false := beq_eq_false_iff_ne.2 h9
            have hg := hg.out hl9
            clear hn h9 hc F5 hl9
            rcases hg with e | ⟨hne, he, e⟩
            · rw [e] at hx
              generalize wFirst s l = a at *
              generalize wMany l = b at *
              clear e
              go_wp2_with fail
              refine (hw _).mono ?_
              rintro e w53 ⟨rfl, hw⟩
              have hb := hw.below
              clear hw
              replace HT := Aside0.mk (Kd.C_below HT.out hb)
              replace HB := Aside0.mk (below_step HB.out hb)
              clear hb
              go_wp2_with fail
              refine (hx _).mono ?_
              rintro e w54 ⟨rfl, hw⟩
              have hb := hw.below
              clear hw
              replace HT := Aside0.mk (Kd.C_below HT.out hb)
              replace HB := Aside0.mk (below_step HB.out hb)
              clear hb
              go_wp2_with fail
              refine (awake_any _ HT.out).mono ?_
              rintro e w55 ⟨rfl, hw⟩
              have hb := hw
              clear hw
              replace HT := Aside0.mk (Kd.C_below HT.out hb)
              replace HB := Aside0.mk (below_step HB.out hb)
              clear hb
              go_wp2
              go_ret
              exact ⟨rfl, HB.out⟩
            · have c13 : (wFirst s (l + 1) == wFirst s l) = false := beq_eq_false_iff_ne.2 hne
              have c16 : (wFirst s (l + 1) + wMany l == wFirst s l) = true := by simp [he]
              rw [← he] at e
              clear hne he
              generalize wFirst s (l + 1) = a2 at *
              generalize wFirst s l = a at *
              generalize wMany l = b at *
              go_wp2_with fail
              refine (hw _).mono ?_
              rintro e w56 ⟨rfl, hw⟩
              have hb := hw.below
              clear hw
              replace HT := Aside0.mk (Kd.C_below HT.out hb)
              replace HB := Aside0.mk (below_step HB.out hb)
              clear hb
              go_wp2_with fail
              refine (hx _).mono ?_
              rintro e w57 ⟨rfl, hw⟩
              have hb := hw.below
              clear hw
              replace HT := Aside0.mk (Kd.C_below HT.out hb)
              replace HB := Aside0.mk (below_step HB.out hb)
              clear hb
              go_wp2_with fail
              refine (awake_any _ HT.out).mono ?_
              rintro e w58 ⟨rfl, hw⟩
              have hb := hw
              clear hw
              replace HT := Aside0.mk (Kd.C_below HT.out hb)
              replace HB := Aside0.mk (below_step HB.out hb)
              clear hb
              go_wp2
              go_ret
              exact ⟨rfl, HB.out⟩
      · have c4 : decide (h > 2) = false := decide_eq_false h2
        skip
        generalize upN l h = a0 at *
        generalize loN l h = b0 at *
        generalize upN (l + 1) h = a1 at *
        generalize loN (l + 1) h = b1 at *
        generalize erN (l + 1) h = e1 at *
        clear hm hmd u1 u2 u3 u4 u5 u6
        go_enter Tryd.func6, Tryd.ntmps6
        go_wp2_with fail
        refine (hu _).mono ?_
        rintro e w59 ⟨rfl, hw⟩
        have hb := hw.below
        clear hw
        replace HT := Aside0.mk (Kd.C_below HT.out hb)
        replace HB := Aside0.mk (below_step HB.out hb)
        clear hb
        go_wp2_with fail
        refine (ho _).mono ?_
        rintro e w60 ⟨rfl, hw⟩
        have hb := hw.below
        clear hw
        replace HT := Aside0.mk (Kd.C_below HT.out hb)
        replace HB := Aside0.mk (below_step HB.out hb)
        clear hb
        go_wp2_with fail
        refine (hu2 _).mono ?_
        rintro e w61 ⟨rfl, hw⟩
        have hb := hw.below
        clear hw
        replace HT := Aside0.mk (Kd.C_below HT.out hb)
        replace HB := Aside0.mk (below_step HB.out hb)
        clear hb
        go_wp2_with fail
        refine (ho2 _).mono ?_
        rintro e w62 ⟨rfl, hw⟩
        have hb := hw.below
        clear hw
        replace HT := Aside0.mk (Kd.C_below HT.out hb)
        replace HB := Aside0.mk (below_step HB.out hb)
        clear hb
        cases hc : winB s l with
        | false =>
          simp only [winF, winM, winE, hc, Bool.false_eq_true, if_false] at hw
          go_wp2_with fail
          refine (hw _).mono ?_
          rintro e w63 ⟨rfl, hw⟩
          have hb := hw.below
          clear hw
          replace HT := Aside0.mk (Kd.C_below HT.out hb)
          replace HB := Aside0.mk (below_step HB.out hb)
          clear hb
          go_wp2_with fail
          refine (awake_any _ HT.out).mono ?_
          rintro e w64 ⟨rfl, hw⟩
          have hb := hw
          clear hw
          replace HT := Aside0.mk (Kd.C_below HT.out hb)
          replace HB := Aside0.mk (below_step HB.out hb)
          clear hb
          go_wp2
          go_ret
          exact ⟨rfl, HB.out⟩
        | true =>
          obtain ⟨f1, f2, f3, f4, f5, f6⟩ := nests_win hc
          obtain ⟨c10, c11, hl1⟩ := win_tests hc
          have hx := fun w => window_any s (l + 1) w
          have hg := Aside0.mk (fun hl9 => nests_half hc hl9)
          have F5 := Aside0.mk f5
          clear f1 f2 f5
          simp only [winF, winM, winE, hc, if_true] at hw
          by_cases h9 : l = 9
          · have hn := win_nine (s := s) h9
            simp only [winF, winM, winE, hn, Bool.false_eq_true, if_false] at hx
            have c12 : (l == 9) = true := by simp [h9]
            clear hg hn h9 hc F5
            generalize wFirst s l = a at *
            generalize wMany l = b at *
            go_wp2_with fail
            refine (hw _).mono ?_
            rintro e w65 ⟨rfl, hw⟩
            have hb := hw.below
            clear hw
            replace HT := Aside0.mk (Kd.C_below HT.out hb)
            replace HB := Aside0.mk (below_step HB.out hb)
            clear hb
            go_wp2_with fail
            refine (hx _).mono ?_
            rintro e w66 ⟨rfl, hw⟩
            have hb := hw.below
            clear hw
            replace HT := Aside0.mk (Kd.C_below HT.out hb)
            replace HB := Aside0.mk (below_step HB.out hb)
            clear hb
            go_wp2_with fail
            refine (awake_any _ HT.out).mono ?_
            rintro e w67 ⟨rfl, hw⟩
            have hb := hw
            clear hw
            replace HT := Aside0.mk (Kd.C_below HT.out hb)
            replace HB := Aside0.mk (below_step HB.out hb)
            clear hb
            go_wp2
            go_ret
            exact ⟨rfl, HB.out⟩
          · obtain ⟨hn, c14, c15, hl9⟩ := win_less hc h9
            simp only [winF, winM, winE, hn, if_true, F5.out] at hx
            have c12 : (l == 9) = false := beq_eq_false_iff_ne.2 h9
            have hg := hg.out hl9
            clear hn h9 hc F5 hl9
            rcases hg with e | ⟨hne, he, e⟩
            · rw [e] at hx
              generalize wFirst s l = a at *
              generalize wMany l = b at *
              clear e
              go_wp2_with fail
              refine (hw _).mono ?_
              rintro e w68 ⟨rfl, hw⟩
              have hb := hw.below
              clear hw
              replace HT := Aside0.mk (Kd.C_below HT.out hb)
              replace HB := Aside0.mk (below_step HB.out hb)
              clear hb
              go_wp2_with fail
              refine (hx _).mono ?_
              rintro e w69 ⟨rfl, hw⟩
              have hb := hw.below
              clear hw
              replace HT := Aside0.mk (Kd.C_below HT.out hb)
              replace HB := Aside0.mk (below_step HB.out hb)
              clear hb
              go_wp2_with fail
              refine (awake_any _ HT.out).mono ?_
              rintro e w70 ⟨rfl, hw⟩
              have hb := hw
              clear hw
              replace HT := Aside0.mk (Kd.C_below HT.out hb)
              replace HB := Aside0.mk (below_step HB.out hb)
              clear hb
              go_wp2
              go_ret
              exact ⟨rfl, HB.out⟩
            · have c13 : (wFirst s (l + 1) == wFirst s l) = false := beq_eq_false_iff_ne.2 hne
              have c16 : (wFirst s (l + 1) + wMany l == wFirst s l) = true := by simp [he]
              rw [← he] at e
              clear hne he
              generalize wFirst s (l + 1) = a2 at *
              generalize wFirst s l = a at *
              generalize wMany l = b at *
              go_wp2_with fail
              refine (hw _).mono ?_
              rintro e w71 ⟨rfl, hw⟩
              have hb := hw.below
              clear hw
              replace HT := Aside0.mk (Kd.C_below HT.out hb)
              replace HB := Aside0.mk (below_step HB.out hb)
              clear hb
              go_wp2_with fail
              refine (hx _).mono ?_
              rintro e w72 ⟨rfl, hw⟩
              have hb := hw.below
              clear hw
              replace HT := Aside0.mk (Kd.C_below HT.out hb)
              replace HB := Aside0.mk (below_step HB.out hb)
              clear hb
              go_wp2_with fail
              refine (awake_any _ HT.out).mono ?_
              rintro e w73 ⟨rfl, hw⟩
              have hb := hw
              clear hw
              replace HT := Aside0.mk (Kd.C_below HT.out hb)
              replace HB := Aside0.mk (below_step HB.out hb)
              clear hb
              go_wp2
              go_ret
              exact ⟨rfl, HB.out⟩
end Go.Proofs.YtlaegahdignphaaDoor.L6
