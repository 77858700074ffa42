/- Contracts of halving, of the reference, and of the law's helpers; the law's examples. -/
import Derived.Test.YthhmiieimfdffaaC9
namespace Go.Proofs.Ythhmiieimfdffaa.C10
open Go.RowKit Go.Proofs.YthhmiieimfdffaaW.PrintWords Go.Proofs.YthhmiieimfdffaaW.PrintLast Go.Proofs.YthhmiieimfdffaaW.PrintMore C1 C2 C3 C4 C5 C6 C7 C8 C9 Q1
set_option linter.unusedVariables false
set_option linter.unusedSimpArgs false

theorem rising_any (A0 : Option Addr) (c0 : Nat) (l : List Int) (b : Bool) (hb : risingB l = b) (w : World) (hr : Kd.C (Kd.int .i64) w A0 l.length l) (hc : l.length ≤ c0) (hlen : l.length ≤ 1000000000000) :
    Calls Try.prog 31 #[.slice A0 l.length c0] w fun e w' => e = .returned (.bool b) ∧ Drawn0 w w' := by
  obtain ⟨k, hk⟩ := bisect_Rising_is l (by omega)
  rw [hb] at hk
  exact bisect_Rising.calls k A0 c0 l b w hr hc hk
theorem refRising_any (A0 : Option Addr) (c0 : Nat) (l : List Int) (b : Bool) (hb : risingB l = b) (w : World) (hr : Kd.C (Kd.int .i64) w A0 l.length l) (hc : l.length ≤ c0) (hlen : l.length ≤ 1000000000000) :
    Calls Try.prog 15 #[.slice A0 l.length c0] w fun e w' => e = .returned (.bool b) ∧ Drawn0 w w' := by
  obtain ⟨k, hk⟩ := punnetref11_Rising_is l (by omega)
  rw [hb] at hk
  exact punnetref11_Rising.calls k A0 c0 l b w hr hc hk
theorem refRight_any (b : Int) (w : World) : Calls Try.prog 11 #[.int .i64 b] w fun e w' => e = .returned (.bool (bitsB b)) ∧ Drawn0 w w' := punnetref19_Right.calls b _ w (right_f b)
theorem refBlocks_any {b : Nat} (h1 : 1 ≤ b) (h2 : b ≤ 10) {n : Nat} (hn : n ≤ 1000000) (w : World) : Calls Try.prog 14 #[.int .i64 n, .int .i64 b] w fun e w' => e = .returned (.int .i64 (blk n (wd b))) ∧ Drawn0 w w' :=
  punnetref19_Blocks.calls (n + 13) n b _ w (refBlocks_f h1 h2 hn (by omega))
theorem refSorted_any {b : Nat} (h1 : 1 ≤ b) (h2 : b ≤ 10) (A0 : Option Addr) (c0 : Nat) (l : List Int) (w : World) (hr : Kd.C (Kd.int .i64) w A0 l.length l) (hc : l.length ≤ c0) (hlen : l.length ≤ 1000000) :
    Calls Try.prog 13 #[.slice A0 l.length c0, .int .i64 b] w fun e w' => ∃ (A : Option Addr) (c : Nat), e = .returned (.slice A (sortedOf l (wd b)).length c) ∧ (sortedOf l (wd b)).length ≤ c ∧ Kd.C (Kd.int .i64) w' A (sortedOf l (wd b)).length (sortedOf l (wd b)) ∧ Below w.heap.size w w' := by
  obtain ⟨k, hk⟩ := refSorted_f h1 h2 l (by omega)
  refine (punnetref19_Sorted.calls k A0 c0 l b _ w hr hc hk).mono ?_
  rintro e w' ⟨v, rfl, hR, hb⟩
  obtain ⟨A, c, rfl, hl, hC⟩ := Kd.R_reads hR
  exact ⟨A, c, rfl, hl, hC, hb⟩
theorem refOf_any {b : Nat} (h1 : 1 ≤ b) (h2 : b ≤ 10) (A0 : Option Addr) (c0 : Nat) (l : List Int) (w : World) (hr : Kd.C (Kd.int .i64) w A0 l.length l) (hc : l.length ≤ c0) (hlen : l.length ≤ 1000000) :
    Calls Try.prog 16 #[.slice A0 l.length c0, .int .i64 b] w fun e w' => ∃ (A : Option Addr) (c : Nat), e = .returned (.slice A (layOf l (wd b)).length c) ∧ (layOf l (wd b)).length ≤ c ∧ Kd.C (Kd.int .i64) w' A (layOf l (wd b)).length (layOf l (wd b)) ∧ Below w.heap.size w w' := by
  obtain ⟨k, hk⟩ := refOf_f h1 h2 l (by omega)
  refine (punnetref19_Of.calls k A0 c0 l b _ w hr hc hk).mono ?_
  rintro e w' ⟨v, rfl, hR, hb⟩
  obtain ⟨A, c, rfl, hl, hC⟩ := Kd.R_reads hR
  exact ⟨A, c, rfl, hl, hC, hb⟩
theorem ints_f (l : List Int) (hl : l.length ≤ 1000000) : ∃ k, punnetlaw19_ints.f k l l = some true := by
  have go : ∀ (d i k : Nat), i + d = l.length → d < k → punnetlaw19_ints.l0 k l l i = some true := by
    intro d
    induction d with
    | zero =>
      intro i k hd hk
      obtain ⟨k, rfl⟩ : ∃ j, k = j + 1 := ⟨k - 1, by omega⟩
      simp only [punnetlaw19_ints.l0]
      rw [if_neg (by omega)]
    | succ d ih =>
      intro i k hd hk
      obtain ⟨k, rfl⟩ : ∃ j, k = j + 1 := ⟨k - 1, by omega⟩
      simp only [punnetlaw19_ints.l0]
      rw [if_pos (by omega), if_pos (by omega), if_pos (by omega), if_true, wr _ (by omega)]
      exact ih (i + 1) k (by omega) (by omega)
  refine ⟨l.length + 1, ?_⟩
  unfold punnetlaw19_ints.f
  rw [if_pos rfl]
  exact go l.length 0 _ (by omega) (by omega)
theorem ints_eq (A0 : Option Addr) (c0 : Nat) (l : List Int) (A1 : Option Addr) (c1 : Nat) (m : List Int) (w : World) (hr : Kd.C (Kd.int .i64) w A0 l.length l) (hc : l.length ≤ c0) (hr1 : Kd.C (Kd.int .i64) w A1 m.length m) (hc1 : m.length ≤ c1) (hlen : l.length ≤ 1000000) (h : l = m) :
    Calls Try.prog 12 #[.slice A0 l.length c0, .slice A1 m.length c1] w fun e w' => e = .returned (.bool true) ∧ Drawn0 w w' := by
  subst h
  obtain ⟨k, hk⟩ := ints_f l hlen
  exact punnetlaw19_ints.calls k A0 c0 l A1 c1 l true w hr hc hr1 hc1 hk
/-- .. with the lengths as they are told. -/
theorem ints_same (n : Nat) (l : List Int) (A0 : Option Addr) (c0 : Nat) (A1 : Option Addr) (c1 : Nat) (w : World) (hr : Kd.C (Kd.int .i64) w A0 n l) (hc : n ≤ c0) (hr1 : Kd.C (Kd.int .i64) w A1 n l) (hc1 : n ≤ c1) (hn : l.length = n) (hlen : n ≤ 1000000) :
    Calls Try.prog 12 #[.slice A0 n c0, .slice A1 n c1] w fun e w' => e = .returned (.bool true) ∧ Drawn0 w w' := by
  subst hn
  exact ints_eq A0 c0 l A1 c1 l w hr hc hr1 hc1 hlen rfl

set_option maxHeartbeats 400000 in
theorem bisect_yes (A0 : Option Addr) (c0 : Nat) (l : List Int) (key : Int) (w : World) (hr : Kd.C (Kd.int .i64) w A0 l.length l) (hc : l.length ≤ c0)
    (hlen : l.length ≤ 1000000000000) (h : risingB l = true) :
    Calls Try.prog 18 #[.slice A0 l.length c0, .int .i64 key] w fun e w' => e = .returned (.tuple #[.int .i64 (rankN l key), .int .i64 (comparedN l key), .int .i64 0]) ∧ Drawn0 w w' := by
  have HR := Aside0.mk hr
  have HH := Aside0.mk h
  clear hr h
  go_enter Try.func18, Try.ntmps18
  go_wp2
  go_step3
  go_wp2_with (go_at_call 31; refine (rising_any A0 c0 l true HH.out _ HR.out hc hlen).mono ?_; rintro e w' ⟨rfl, ⟨n1, rfl⟩⟩)
  go_step3
  go_wp2
  go_loopg [7, 8, 9] l.length (fun kq lo hi cm w' => ∃ a b c : Nat, lo = .int .i64 a ∧ hi = .int .i64 b ∧ cm = .int .i64 c ∧ a ≤ b ∧ b ≤ l.length ∧ Aside0 (c ≤ l.length - (b - a) ∧ b - a ≤ kq ∧ halves kq l key a b c = halves l.length l key 0 l.length 0) ∧ Drawn0 w w')
  case atStart => exact ⟨0, l.length, 0, rfl, rfl, rfl, by omega, by omega, ⟨by omega, by omega, rfl⟩, by repeat (first | exact Drawn0.refl _ | apply Drawn0.step)⟩
  case round =>
    obtain ⟨a, b, c, rfl, rfl, rfl, hab, hbl, HA, ⟨m1, rfl⟩⟩ := hrel
    have hcl : c ≤ l.length := by have := HA.out.1; omega
    by_cases hlt : a < b
    · obtain ⟨gk, rfl⟩ : ∃ m, gk = m + 1 := ⟨gk - 1, by have := HA.out.2.1; omega⟩
      obtain ⟨ad, e, hx⟩ := Kd.at_int HR.out ((a + (b - a) / 2 : Nat) : Int) (by omega) (by omega)
      cases e
      have hm : a + (b - a) / 2 < l.length := by omega
      rw [Int.toNat_natCast] at hx
      obtain ⟨v, hv⟩ : ∃ v, rd l ((a + (b - a) / 2 : Nat) : Int) = v := ⟨_, rfl⟩
      rw [hv] at hx
      have HA2 := HA.out
      clear HA
      simp only [halves] at HA2
      rw [if_pos hlt, hv] at HA2
      clear hv
      by_cases hk : v < key
      · rw [if_pos hk] at HA2
        have HA := Aside0.mk HA2
        clear HA2
        have hkb : decide (v < key) = true := decide_eq_true hk
        clear hk
        go_wp2
        go_roundg gk
        case measure => omega
        case rel => exact ⟨a + (b - a) / 2 + 1, b, c + 1, by go_num, rfl, by go_num, by omega, hbl, ⟨by have := HA.out.1; omega, by have := HA.out.2.1; omega, HA.out.2.2⟩, by repeat (first | exact Drawn0.refl _ | apply Drawn0.step)⟩
      · rw [if_neg hk] at HA2
        have HA := Aside0.mk HA2
        clear HA2
        have hkb : decide (v < key) = false := decide_eq_false hk
        clear hk
        go_wp2
        go_roundg gk
        case measure => omega
        case rel => exact ⟨a, a + (b - a) / 2, c + 1, rfl, by go_num, by go_num, by omega, by omega, ⟨by have := HA.out.1; omega, by have := HA.out.2.1; omega, HA.out.2.2⟩, by repeat (first | exact Drawn0.refl _ | apply Drawn0.step)⟩
    · go_wp2
      rw [Exit.noGoto_ret]
      go_ret3
      exact ⟨by unfold rankN comparedN; rw [← HA.out.2.2, halves_end _ hlt]; rfl, by repeat (first | exact Drawn0.refl _ | apply Drawn0.step)⟩

set_option maxRecDepth 100000 in
theorem len_nine (w : World) : Calls Try.prog 37 #[.int .u64 9] w fun e w' => e = .returned (.int .i64 4) ∧ w' = w := by
  go_enter Try.func37, Try.ntmps37
  go_wp2
  go_ret
  exact ⟨by kernel_rfl, rfl⟩
theorem lenU_nine (w : World) : Calls Try.prog 32 #[.int .u64 9] w fun e w' => e = .returned (.int .i64 4) ∧ w' = w := by
  go_enter Try.func32, Try.ntmps32
  go_wp2_with fail
  refine (len_nine _).mono ?_
  rintro e w' ⟨rfl, rfl⟩
  go_wp2
  go_ret
  exact ⟨rfl, rfl⟩
theorem most_eight (w : World) : Calls Try.prog 19 #[.int .i64 8, .int .i64 2] w fun e w' => e = .returned (.tuple #[.int .i64 4, .int .i64 0]) ∧ Drawn0 w w' := by
  have H : Aside0 (∀ w, Calls Try.prog _ _ w _) := ⟨right_any 2⟩
  rw [show bitsB 2 = true by decide] at H
  go_enter Try.func19, Try.ntmps19
  go_wp2_with fail
  refine (H.out _).mono ?_
  rintro e w1 ⟨rfl, hw⟩
  go_wp2_with fail
  refine (lenU_nine _).mono ?_
  rintro e w2 ⟨rfl, rfl⟩
  go_wp2
  go_ret2
  exact ⟨rfl, hw⟩
end Go.Proofs.Ythhmiieimfdffaa.C10
