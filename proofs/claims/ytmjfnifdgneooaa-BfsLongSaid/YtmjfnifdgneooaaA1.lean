/- Walks of the package bisect: Rising, Rank, Span, Near, and of its reference; whatever the lists, up to 10^12 numbers. -/
import Derived.Test.YtmjfnifdgneooaaB1
import Derived.Lib.Hide
namespace Go.Proofs.Ytmjfnifdgneooaa.A1
open Go.RowKit Go.Proofs.YtmjfnifdgneooaaW.PrintWords Go.Proofs.YtmjfnifdgneooaaW.PrintLast Go.Proofs.YtmjfnifdgneooaaW.PrintMore B1
set_option linter.unusedVariables false
set_option linter.unusedSimpArgs false

theorem rising_any (A0 : Option Addr) (c0 : Nat) (l : List Int) (b : Bool) (hb : risingB l = b) (w : World) (hr : Kd.C (Kd.int .i64) w A0 l.length l) (hc : l.length ≤ c0) (hlen : l.length ≤ 1000000000000) :
    Calls Try.prog 15 #[.slice A0 l.length c0] w fun e w' => e = .returned (.bool b) ∧ Drawn0 w w' := by
  obtain ⟨k, hk⟩ := rising_f l (by omega)
  rw [hb] at hk
  exact PBisectRanks.bisect_Rising.calls k A0 c0 l b w hr hc hk

set_option maxHeartbeats 400000 in
theorem rank_yes (A0 : Option Addr) (c0 : Nat) (l : List Int) (key : Int) (w : World) (hr : Kd.C (Kd.int .i64) w A0 l.length l) (hc : l.length ≤ c0)
    (hlen : l.length ≤ 1000000000000) (h : risingB l = true) :
    Calls Try.prog 14 #[.slice A0 l.length c0, .int .i64 key] w fun e w' => e = .returned (.tuple #[.int .i64 (rankN l key), .int .i64 (comparedN l key), .int .i64 0]) ∧ Drawn0 w w' := by
  have HR := Aside0.mk hr
  have HH := Aside0.mk h
  clear hr h
  go_enter Try.func14, Try.ntmps14
  go_wp2
  go_step3
  go_wp2_with (go_at_call 15; refine (rising_any A0 c0 l true HH.out _ HR.out hc hlen).mono ?_; rintro e w' ⟨rfl, ⟨n1, rfl⟩⟩)
  go_step3
  go_wp2
  go_loopg [7, 8, 9] l.length (fun kq lo hi cm w' => ∃ a b c : Nat, lo = .int .i64 a ∧ hi = .int .i64 b ∧ cm = .int .i64 c ∧ a ≤ b ∧ b ≤ l.length ∧ Aside0 (c ≤ l.length - (b - a) ∧ b - a ≤ kq ∧ halves kq l key a b c = halves l.length l key 0 l.length 0) ∧ Drawn0 w w')
  case atStart => exact ⟨0, l.length, 0, rfl, rfl, rfl, by omega, by omega, ⟨by omega, by omega, rfl⟩, by repeat (first | exact Drawn0.refl _ | apply Drawn0.step)⟩
  case round =>
    obtain ⟨a, b, c, rfl, rfl, rfl, hab, hbl, HA, ⟨m1, rfl⟩⟩ := hrel
    have hcl : c ≤ l.length := by have := HA.out.1; omega
    by_cases hlt : a < b
    · obtain ⟨gk, rfl⟩ : ∃ m, gk = m + 1 := ⟨gk - 1, by have := HA.out.2.1; omega⟩
      obtain ⟨ad, e, hx⟩ := Kd.at_int HR.out ((a + (b - a) / 2 : Nat) : Int) (by omega) (by omega)
      cases e
      have hm : a + (b - a) / 2 < l.length := by omega
      rw [Int.toNat_natCast] at hx
      obtain ⟨v, hv⟩ : ∃ v, rd l ((a + (b - a) / 2 : Nat) : Int) = v := ⟨_, rfl⟩
      rw [hv] at hx
      have HA2 := HA.out
      clear HA
      simp only [halves] at HA2
      rw [if_pos hlt, hv] at HA2
      clear hv
      by_cases hk : v < key
      · rw [if_pos hk] at HA2
        have HA := Aside0.mk HA2
        clear HA2
        have hkb : decide (v < key) = true := decide_eq_true hk
        clear hk
        go_wp2
        go_roundg gk
        case measure => omega
        case rel => exact ⟨a + (b - a) / 2 + 1, b, c + 1, by go_num, rfl, by go_num, by omega, hbl, ⟨by have := HA.out.1; omega, by have := HA.out.2.1; omega, HA.out.2.2⟩, by repeat (first | exact Drawn0.refl _ | apply Drawn0.step)⟩
      · rw [if_neg hk] at HA2
        have HA := Aside0.mk HA2
        clear HA2
        have hkb : decide (v < key) = false := decide_eq_false hk
        clear hk
        go_wp2
        go_roundg gk
        case measure => omega
        case rel => exact ⟨a, a + (b - a) / 2, c + 1, rfl, by go_num, by go_num, by omega, by omega, ⟨by have := HA.out.1; omega, by have := HA.out.2.1; omega, HA.out.2.2⟩, by repeat (first | exact Drawn0.refl _ | apply Drawn0.step)⟩
    · go_wp2
      rw [Exit.noGoto_ret]
      go_ret3
      exact ⟨by unfold rankN comparedN; rw [← HA.out.2.2, halves_end _ hlt]; rfl, by repeat (first | exact Drawn0.refl _ | apply Drawn0.step)⟩

set_option maxHeartbeats 400000 in
theorem rank_no (A0 : Option Addr) (c0 : Nat) (l : List Int) (key : Int) (w : World) (hr : Kd.C (Kd.int .i64) w A0 l.length l) (hc : l.length ≤ c0)
    (hlen : l.length ≤ 1000000000000) (h : risingB l = false) :
    Calls Try.prog 14 #[.slice A0 l.length c0, .int .i64 key] w fun e w' => e = .returned (.tuple #[.int .i64 0, .int .i64 0, .int .i64 18]) ∧ Drawn0 w w' := by
  have HR := Aside0.mk hr
  have HH := Aside0.mk h
  clear hr h
  go_enter Try.func14, Try.ntmps14
  go_wp2
  go_step3
  go_wp2_with (go_at_call 15; refine (rising_any A0 c0 l false HH.out _ HR.out hc hlen).mono ?_; rintro e w' ⟨rfl, ⟨n1, rfl⟩⟩)
  rw [Exit.noGoto_ret]
  go_ret3
  exact ⟨rfl, by repeat (first | exact Drawn0.refl _ | apply Drawn0.step)⟩

set_option maxHeartbeats 400000 in
theorem span_no (A0 : Option Addr) (c0 : Nat) (l : List Int) (lo hi : Int) (w : World) (hr : Kd.C (Kd.int .i64) w A0 l.length l) (hc : l.length ≤ c0)
    (hlen : l.length ≤ 1000000000000) (h : risingB l = false) :
    Calls Try.prog 18 #[.slice A0 l.length c0, .int .i64 lo, .int .i64 hi] w fun e w' => e = .returned (.tuple #[.int .i64 0, .int .i64 0, .int .i64 18]) ∧ Drawn0 w w' := by
  have HR := Aside0.mk hr
  have HH := Aside0.mk h
  clear hr h
  go_enter Try.func18, Try.ntmps18
  go_wp2_with (go_at_call 14; refine (rank_no A0 c0 l lo _ HR.out hc hlen HH.out).mono ?_; rintro e w' ⟨rfl, ⟨n1, rfl⟩⟩)
  go_ret3
  exact ⟨rfl, by repeat (first | exact Drawn0.refl _ | apply Drawn0.step)⟩
set_option maxHeartbeats 400000 in
theorem span_arg (A0 : Option Addr) (c0 : Nat) (l : List Int) (lo hi : Int) (w : World) (hr : Kd.C (Kd.int .i64) w A0 l.length l) (hc : l.length ≤ c0)
    (hlen : l.length ≤ 1000000000000) (h : risingB l = true) (hlo : hi < lo) :
    Calls Try.prog 18 #[.slice A0 l.length c0, .int .i64 lo, .int .i64 hi] w fun e w' => e = .returned (.tuple #[.int .i64 0, .int .i64 0, .int .i64 1]) ∧ Drawn0 w w' := by
  have HR := Aside0.mk hr
  have HH := Aside0.mk h
  clear hr h
  go_enter Try.func18, Try.ntmps18
  go_wp2_with (go_at_call 14; refine (rank_yes A0 c0 l lo _ HR.out hc hlen HH.out).mono ?_; rintro e w' ⟨rfl, ⟨n1, rfl⟩⟩)
  go_ret3
  exact ⟨rfl, by repeat (first | exact Drawn0.refl _ | apply Drawn0.step)⟩
set_option maxHeartbeats 400000 in
theorem span_yes (A0 : Option Addr) (c0 : Nat) (l : List Int) (lo hi : Int) (w : World) (hr : Kd.C (Kd.int .i64) w A0 l.length l) (hc : l.length ≤ c0)
    (hlen : l.length ≤ 1000000000000) (h : risingB l = true) (hlo : lo ≤ hi) :
    Calls Try.prog 18 #[.slice A0 l.length c0, .int .i64 lo, .int .i64 hi] w fun e w' => e = .returned (.tuple #[.int .i64 (rankN l lo), .int .i64 (rankN l hi), .int .i64 0]) ∧ Drawn0 w w' := by
  have HR := Aside0.mk hr
  have HH := Aside0.mk h
  clear hr h
  go_enter Try.func18, Try.ntmps18
  go_wp2_with fail
  refine (rank_yes A0 c0 l lo _ HR.out hc hlen HH.out).mono ?_
  rintro e w' ⟨rfl, ⟨n1, rfl⟩⟩
  go_wp2_with fail
  refine (rank_yes A0 c0 l hi _ (Kd.C_drewN HR.out _) hc hlen HH.out).mono ?_
  rintro e w' ⟨rfl, ⟨n2, rfl⟩⟩
  go_wp2
  go_ret3
  exact ⟨rfl, by repeat (first | exact Drawn0.refl _ | apply Drawn0.step)⟩

/-- How far a number is below another one, as words. -/
def farW (a b : Int) : Int := IntKind.u64.wrap (IntKind.u64.wrap b - IntKind.u64.wrap a)
theorem far_any (a b : Int) (w : World) : Calls Try.prog 35 #[.int .i64 a, .int .i64 b] w fun e w' => e = .returned (.int .u64 (farW a b)) ∧ w' = w := by
  go_enter Try.func35, Try.ntmps35
  go_wp2
  go_ret
  exact ⟨rfl, rfl⟩

/-- The place of the key that is nearest. -/
def nearN (l : List Int) (key : Int) : Nat :=
  let at_ := rankN l key
  if at_ = 0 then 0 else if at_ = l.length then at_ - 1 else if farW (l.getD (at_ - 1) 0) key ≤ farW key (l.getD at_ 0) then at_ - 1 else at_

set_option maxHeartbeats 400000 in
theorem near_no (A0 : Option Addr) (c0 : Nat) (l : List Int) (key : Int) (w : World) (hr : Kd.C (Kd.int .i64) w A0 l.length l) (hc : l.length ≤ c0)
    (hlen : l.length ≤ 1000000000000) (h : risingB l = false) :
    Calls Try.prog 19 #[.slice A0 l.length c0, .int .i64 key] w fun e w' => e = .returned (.tuple #[.int .i64 0, .int .i64 18]) ∧ Drawn0 w w' := by
  have HR := Aside0.mk hr
  have HH := Aside0.mk h
  clear hr h
  go_enter Try.func19, Try.ntmps19
  go_wp2_with (go_at_call 14; refine (rank_no A0 c0 l key _ HR.out hc hlen HH.out).mono ?_; rintro e w' ⟨rfl, ⟨n1, rfl⟩⟩)
  go_ret2
  exact ⟨rfl, by repeat (first | exact Drawn0.refl _ | apply Drawn0.step)⟩
set_option maxHeartbeats 400000 in
theorem near_none (A0 : Option Addr) (c0 : Nat) (key : Int) (w : World) (hr : Kd.C (Kd.int .i64) w A0 ([] : List Int).length []) :
    Calls Try.prog 19 #[.slice A0 0 c0, .int .i64 key] w fun e w' => e = .returned (.tuple #[.int .i64 0, .int .i64 14]) ∧ Drawn0 w w' := by
  have HR := Aside0.mk hr
  clear hr
  go_enter Try.func19, Try.ntmps19
  go_wp2_with (go_at_call 14; refine (rank_yes A0 c0 [] key _ HR.out (by simp) (by simp) rfl).mono ?_; rintro e w' ⟨rfl, ⟨n1, rfl⟩⟩)
  go_ret2
  exact ⟨rfl, by repeat (first | exact Drawn0.refl _ | apply Drawn0.step)⟩
set_option maxHeartbeats 400000 in
theorem near_yes (A0 : Option Addr) (c0 : Nat) (l : List Int) (key : Int) (w : World) (hr : Kd.C (Kd.int .i64) w A0 l.length l) (hc : l.length ≤ c0)
    (hlen : l.length ≤ 1000000000000) (h : risingB l = true) (hpos : 0 < l.length) :
    Calls Try.prog 19 #[.slice A0 l.length c0, .int .i64 key] w fun e w' => e = .returned (.tuple #[.int .i64 (nearN l key), .int .i64 0]) ∧ Drawn0 w w' := by
  have HR := Aside0.mk hr
  have HH := Aside0.mk h
  clear hr h
  have hle := rankN_le l key
  have hb0 : ((l.length : Int) == 0) = false := beq_eq_false_iff_ne.2 (by omega)
  have HF : Aside0 (nearN l key = if rankN l key = 0 then 0 else if rankN l key = l.length then rankN l key - 1 else if farW (l.getD (rankN l key - 1) 0) key ≤ farW key (l.getD (rankN l key) 0) then rankN l key - 1 else rankN l key) := ⟨rfl⟩
  generalize nearN l key = r at HF ⊢
  have H1 := Aside0.mk (rank_yes A0 c0 l key · · hc hlen HH.out)
  generalize comparedN l key = cmp at H1
  generalize rankN l key = p at HF hle H1
  by_cases h0 : p = 0
  · subst h0
    have e := HF.out
    rw [if_pos rfl] at e
    subst e
    go_enter Try.func19, Try.ntmps19
    go_wp2_with (go_at_call 14; refine (H1.out _ HR.out).mono ?_; rintro e w' ⟨rfl, ⟨n1, rfl⟩⟩)
    go_ret2
    exact ⟨rfl, by repeat (first | exact Drawn0.refl _ | apply Drawn0.step)⟩
  · have hp0 : ((p : Int) == 0) = false := beq_eq_false_iff_ne.2 (by omega)
    have e := HF.out
    rw [if_neg h0] at e
    by_cases h1 : p = l.length
    · rw [if_pos h1] at e
      subst h1
      subst e
      go_enter Try.func19, Try.ntmps19
      go_wp2_with (go_at_call 14; refine (H1.out _ HR.out).mono ?_; rintro e w' ⟨rfl, ⟨n1, rfl⟩⟩)
      go_ret2
      exact ⟨by simp; omega, by repeat (first | exact Drawn0.refl _ | apply Drawn0.step)⟩
    · rw [if_neg h1] at e
      have hp1 : ((p : Int) == (l.length : Int)) = false := beq_eq_false_iff_ne.2 (by omega)
      have hlt : p < l.length := by omega
      have hp : 1 ≤ p := by omega
      clear h0 h1
      have HE := Aside0.mk e
      clear e HF
      go_enter Try.func19, Try.ntmps19
      go_wp2_with (go_at_call 14; refine (H1.out _ HR.out).mono ?_; rintro e w' ⟨rfl, hw⟩)
      obtain ⟨ad, e, hx⟩ := Kd.at_int (Kd.C_below HR.out hw.below) ((p - 1 : Nat) : Int) (by omega) (by omega)
      cases e
      obtain ⟨ad', e, hy⟩ := Kd.at_int (Kd.C_below HR.out hw.below) (p : Int) (by omega) (by omega)
      cases e
      rw [Int.toNat_natCast] at hx hy
      rw [show rd l ((p - 1 : Nat) : Int) = l.getD (p - 1) 0 from rfl] at hx
      rw [show rd l (p : Int) = l.getD p 0 from rfl] at hy
      generalize l.getD (p - 1) 0 = v1 at hx HE
      generalize l.getD p 0 = v2 at hy HE
      have q1 : 0 ≤ (p : Int) - 1 := by omega
      have q2 : (p : Int) - 1 < l.length := by omega
      have q0 : 1 ≤ (p : Int) := by omega
      have q5 : p - 1 < l.length := by omega
      have q3 : ((p : Int) - 1).toNat = p - 1 := by omega
      have q4 : IntKind.i64.wrap ((p : Int) - 1) = (p : Int) - 1 := IntWalk.i64_in _ (by omega)
      go_quiet ((go_at_call 35; exact Calls.quiet_of_same (far_any _ _ _)))
      clear q3 q4
      by_cases hf : farW v1 key ≤ farW key v2
      · have e := HE.out
        rw [if_pos hf] at e
        subst e
        have hfb : decide (farW v1 key ≤ farW key v2) = true := decide_eq_true hf
        have hfc : decide (farW key v2 < farW v1 key) = false := decide_eq_false (by omega)
        have hfd : ¬ farW key v2 < farW v1 key := by omega
        go_wp2
        go_ret2
        exact ⟨by simp; omega, hw.step _⟩
      · have e := HE.out
        rw [if_neg hf] at e
        subst e
        have hfb : decide (farW v1 key ≤ farW key v2) = false := decide_eq_false hf
        have hfc : decide (farW key v2 < farW v1 key) = true := decide_eq_true (by omega)
        have hfd : farW key v2 < farW v1 key := by omega
        go_wp2
        go_ret2
        exact ⟨rfl, hw.step _⟩
end Go.Proofs.Ytmjfnifdgneooaa.A1
