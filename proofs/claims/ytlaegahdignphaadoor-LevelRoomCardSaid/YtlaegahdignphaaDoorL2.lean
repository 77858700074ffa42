/- The law LevelRoom walked: it returns true; whatever the number. -/
import Derived.Test.YtlaegahdignphaaDoorL1
namespace Go.Proofs.YtlaegahdignphaaDoor.L2
open Go.RowKit Go.Proofs.YtlaegahdignphaaDoorW.PrintWords Go.Proofs.YtlaegahdignphaaDoorW.PrintLast Go.Proofs.YtlaegahdignphaaDoorW.PrintMore Q1 L1
set_option linter.unusedVariables false
set_option linter.unusedSimpArgs false

theorem refFor_small : ∀ n : Nat, n < 2561 → punnetref03_For.f 20 n = some (forR n 7 0) := by decide +kernel
theorem refFor_any (n : Int) (hn : 0 ≤ n ∧ n ≤ 2560) (w : World) : Calls Tryd.prog 17 #[.int .i64 n] w fun e w' => e = .returned (.int .i64 (forR n 7 0)) ∧ Drawn0 w w' := by
  obtain ⟨i, rfl⟩ := Int.eq_ofNat_of_zero_le hn.1
  exact punnetref03_For.calls 20 _ _ w (refFor_small i (by omega))
theorem room_any (n : Int) (wn : (Lit.int .i64 n).wf = true) (W : World) (hT : Tb W) : Calls Tryd.prog 3 #[.int .i64 n] W fun e w' => e = .returned (.bool true) ∧ Below W.heap.size W w' := by
  have HT := Aside0.mk hT
  have HB := Aside0.mk (Below.refl W.heap.size W)
  have hf := for_any n
  unfold forN forE at hf
  clear hT
  by_cases h1 : n < 0
  · rw [if_pos h1, if_pos h1] at hf
    have c1 : decide (n < 0) = true := decide_eq_true h1
    go_enter Tryd.func3, Tryd.ntmps3
    go_wp2_with fail
    refine (hf _).mono ?_
    rintro e w1 ⟨rfl, hw⟩
    have hb := hw
    clear hw
    replace HT := Aside0.mk (Kd.C_below HT.out hb)
    replace HB := Aside0.mk (below_step HB.out hb)
    clear hb
    go_wp2_with fail
    refine (awake_any _ HT.out).mono ?_
    rintro e w2 ⟨rfl, hw⟩
    have hb := hw
    clear hw
    replace HT := Aside0.mk (Kd.C_below HT.out hb)
    replace HB := Aside0.mk (below_step HB.out hb)
    clear hb
    go_wp2
    go_ret
    exact ⟨rfl, HB.out⟩
  · rw [if_neg h1, if_neg h1] at hf
    have c1 : decide (n < 0) = false := decide_eq_false h1
    by_cases h2 : n > 2560
    · rw [if_pos h2, if_pos h2] at hf
      have c2 : decide (n > 2560) = true := decide_eq_true h2
      go_enter Tryd.func3, Tryd.ntmps3
      go_wp2_with fail
      refine (hf _).mono ?_
      rintro e w3 ⟨rfl, hw⟩
      have hb := hw
      clear hw
      replace HT := Aside0.mk (Kd.C_below HT.out hb)
      replace HB := Aside0.mk (below_step HB.out hb)
      clear hb
      go_wp2_with fail
      refine (awake_any _ HT.out).mono ?_
      rintro e w4 ⟨rfl, hw⟩
      have hb := hw
      clear hw
      replace HT := Aside0.mk (Kd.C_below HT.out hb)
      replace HB := Aside0.mk (below_step HB.out hb)
      clear hb
      go_wp2
      go_ret
      exact ⟨rfl, HB.out⟩
    · rw [if_neg h2, if_neg h2] at hf
      have c2 : decide (n > 2560) = false := decide_eq_false h2
      have hr := refFor_any n (by omega)
      generalize forR n 7 0 = v at *
      go_enter Tryd.func3, Tryd.ntmps3
      go_wp2_with fail
      refine (hf _).mono ?_
      rintro e w5 ⟨rfl, hw⟩
      have hb := hw
      clear hw
      replace HT := Aside0.mk (Kd.C_below HT.out hb)
      replace HB := Aside0.mk (below_step HB.out hb)
      clear hb
      go_wp2_with fail
      refine (hr _).mono ?_
      rintro e w6 ⟨rfl, hw⟩
      have hb := hw.below
      clear hw
      replace HT := Aside0.mk (Kd.C_below HT.out hb)
      replace HB := Aside0.mk (below_step HB.out hb)
      clear hb
      go_wp2_with fail
      refine (awake_any _ HT.out).mono ?_
      rintro e w7 ⟨rfl, hw⟩
      have hb := hw
      clear hw
      replace HT := Aside0.mk (Kd.C_below HT.out hb)
      replace HB := Aside0.mk (below_step HB.out hb)
      clear hb
      go_wp2
      go_ret
      exact ⟨rfl, HB.out⟩
end Go.Proofs.YtlaegahdignphaaDoor.L2
