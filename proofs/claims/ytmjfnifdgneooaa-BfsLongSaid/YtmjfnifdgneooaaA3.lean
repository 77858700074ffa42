/- Walk of the law BisectRanks: it returns true; whatever the keys, the key. -/
import Derived.Test.YtmjfnifdgneooaaA2
namespace Go.Proofs.Ytmjfnifdgneooaa.A3
open Go.RowKit Go.Proofs.YtmjfnifdgneooaaW.PrintWords Go.Proofs.YtmjfnifdgneooaaW.PrintLast Go.Proofs.YtmjfnifdgneooaaW.PrintMore B1 A1 B2 A2
set_option linter.unusedVariables false
set_option linter.unusedSimpArgs false

theorem refRising_any (A0 : Option Addr) (c0 : Nat) (l : List Int) (b : Bool) (hb : risingB l = b) (w : World) (hr : Kd.C (Kd.int .i64) w A0 l.length l) (hc : l.length ≤ c0) (hlen : l.length ≤ 1000000) :
    Calls Try.prog 13 #[.slice A0 l.length c0] w fun e w' => e = .returned (.bool b) ∧ Drawn0 w w' := by
  obtain ⟨k, hk⟩ := refRising_f l (by omega)
  rw [hb] at hk
  exact PBisectRanks.punnetref17_Rising.calls k A0 c0 l b w hr hc hk
theorem refRank_any (A0 : Option Addr) (c0 : Nat) (l : List Int) (key : Int) (w : World) (hr : Kd.C (Kd.int .i64) w A0 l.length l) (hc : l.length ≤ c0) (hlen : l.length ≤ 1000000) :
    Calls Try.prog 16 #[.slice A0 l.length c0, .int .i64 key] w fun e w' => e = .returned (.int .i64 (less l key)) ∧ Drawn0 w w' := by
  obtain ⟨k, hk⟩ := refRank_f l key (by omega)
  exact PBisectRanks.punnetref17_Rank.calls k A0 c0 l key _ w hr hc hk
theorem refCompared_any (A0 : Option Addr) (c0 : Nat) (l : List Int) (key : Int) (w : World) (hr : Kd.C (Kd.int .i64) w A0 l.length l) (hc : l.length ≤ c0) (hlen : l.length ≤ 1000000) :
    Calls Try.prog 17 #[.slice A0 l.length c0, .int .i64 key, .int .i64 0, .int .i64 l.length] w fun e w' => e = .returned (.int .i64 (comparedN l key)) ∧ Drawn0 w w' := by
  obtain ⟨k, hk⟩ := refCompared_f l key (by omega)
  exact PBisectRanks.punnetref17_Compared.calls k A0 c0 l key _ _ _ w hr hc hk

set_option maxHeartbeats 1000000 in
theorem ranks_any (A0 : Option Addr) (c0 : Nat) (l : List Int) (key : Int) (w : World) (hr : Kd.C (Kd.int .i64) w A0 l.length l) (hc : l.length ≤ c0) (hlen : l.length ≤ 100000000000000) :
    Calls Try.prog 3 #[.slice A0 l.length c0, .int .i64 key] w fun e w' => e = .returned (.bool true) ∧ Below w.heap.size w w' := by
  have HR := Aside0.mk hr
  clear hr
  by_cases h2 : 200 < l.length
  · go_enter Try.func3, Try.ntmps3
    go_wp2_with (go_at_call 12; refine (awake_any _).mono ?_; rintro e w' ⟨rfl, hw⟩)
    go_ret
    exact ⟨rfl, hw⟩
  · have h3 : l.length ≤ 200 := by omega
    cases hb : risingB l with
    | false =>
      have HH := Aside0.mk hb
      clear hb
      go_enter Try.func3, Try.ntmps3
      go_wp2_with fail
      refine (refRising_any _ _ l false HH.out _ HR.out hc (by omega)).mono ?_
      rintro e w1 ⟨rfl, hw⟩
      have H1 := Aside0.mk (Kd.C_below HR.out hw.below); have B1 := Aside0.mk hw.below; clear hw
      go_wp2_with fail
      refine (rank_no _ _ l key _ H1.out hc (by omega) HH.out).mono ?_
      rintro e w2 ⟨rfl, hw⟩
      have H2 := Aside0.mk (Kd.C_below H1.out hw.below); have B2 := Aside0.mk (below_step B1.out hw.below); clear hw
      go_wp2_with fail
      refine (rising_any _ _ l false HH.out _ H2.out hc (by omega)).mono ?_
      rintro e w3 ⟨rfl, hw⟩
      have B3 := Aside0.mk (below_step B2.out hw.below); clear hw
      go_wp2_with fail
      refine (awake_any _).mono ?_
      rintro e w4 ⟨rfl, hw⟩
      have B4 := Aside0.mk (below_step B3.out hw); clear hw
      go_wp2
      go_ret
      exact ⟨rfl, B4.out⟩
    | true =>
      have HH := Aside0.mk hb
      clear hb
      have e1 := rankN_less key HH.out
      go_enter Try.func3, Try.ntmps3
      go_wp2_with fail
      refine (refRising_any _ _ l true HH.out _ HR.out hc (by omega)).mono ?_
      rintro e w1 ⟨rfl, hw⟩
      have H1 := Aside0.mk (Kd.C_below HR.out hw.below); have B1 := Aside0.mk hw.below; clear hw
      go_wp2_with fail
      refine (rank_yes _ _ l key _ H1.out hc (by omega) HH.out).mono ?_
      rintro e w2 ⟨rfl, hw⟩
      have H2 := Aside0.mk (Kd.C_below H1.out hw.below); have B2 := Aside0.mk (below_step B1.out hw.below); clear hw
      go_wp2_with fail
      refine (rising_any _ _ l true HH.out _ H2.out hc (by omega)).mono ?_
      rintro e w3 ⟨rfl, hw⟩
      have H3 := Aside0.mk (Kd.C_below H2.out hw.below); have B3 := Aside0.mk (below_step B2.out hw.below); clear hw
      go_wp2_with fail
      refine (refRank_any _ _ l key _ H3.out hc (by omega)).mono ?_
      rintro e w4 ⟨rfl, hw⟩
      have H4 := Aside0.mk (Kd.C_below H3.out hw.below); have B4 := Aside0.mk (below_step B3.out hw.below); clear hw
      go_wp2_with fail
      refine (refCompared_any _ _ l key _ H4.out hc (by omega)).mono ?_
      rintro e w5 ⟨rfl, hw⟩
      have B5 := Aside0.mk (below_step B4.out hw.below); clear hw
      go_wp2_with fail
      refine (awake_any _).mono ?_
      rintro e w6 ⟨rfl, hw⟩
      have B6 := Aside0.mk (below_step B5.out hw); clear hw
      go_wp2
      go_ret
      exact ⟨rfl, B6.out⟩
theorem ranksLaw {W0 : World} (A : Option Addr) (c : Nat) (l : List Int) (g : Kd.C (Kd.int .i64) W0 A l.length l) (hc : l.length ≤ c) (y : l.length * 8 ≤ 140737488351232) (w : ∀ x ∈ l, (Lit.int .i64 x).wf = true)
    (a : Int) (wa : (Lit.int .i64 a).wf = true) (W : World) (hW : W = W0 := by rfl) : Calls Try.prog 3 #[.slice A l.length c, .int .i64 a] W fun e w' => e = .returned (.bool true) ∧ Below W.heap.size W w' := by
  subst hW
  exact ranks_any A c l a W g hc (by omega)
end Go.Proofs.Ytmjfnifdgneooaa.A3
