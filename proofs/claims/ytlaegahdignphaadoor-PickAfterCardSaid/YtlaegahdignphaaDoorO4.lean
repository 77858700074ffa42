/- What the document's spread computes; its powers. -/
import Derived.Test.YtlaegahdignphaaDoorN7
import Derived.Test.YtlaegahdignphaaDoorM8
namespace Go.Proofs.YtlaegahdignphaaDoor.O4
open Go.RowKit Go.Shelf Go.Proofs.YtlaegahdignphaaDoorW.PrintWords Go.Proofs.YtlaegahdignphaaDoorW.PrintLast Go.Proofs.YtlaegahdignphaaDoorW.PrintMore Q1 Q2 L1 L3 S1 M1 M2 M3 M4 M7 M8 N7
set_option linter.unusedVariables false
set_option linter.unusedSimpArgs false

/-- How many of the first i numbers, times s, are no more than x. -/
theorem cnt_step {x s i c : Nat} (hs : 0 < s) (h : c = min i (x / s)) : (if (i + 1) * s ≤ x then c + 1 else c) = min (i + 1) (x / s) := by
  have := Nat.le_div_iff_mul_le hs (x := i + 1) (y := x)
  split
  · rename_i h1
    have := this.2 h1
    omega
  · rename_i h1
    have : ¬ i + 1 ≤ x / s := fun h2 => h1 (this.1 h2)
    omega
theorem ahead_loop {n s k : Nat} (hs : 0 < s) (hs2 : s ≤ 512) (hn : n ≤ 4096) (hk : k ≤ 512) : ∀ d i : Nat, i + d = n → Ev (fun q => punnetref04_Ahead.l0 q (n : Int) (s : Int) (k : Int) ((min i (k * n / s) : Nat) : Int) ((i + 1 : Nat) : Int)) ((min n (k * n / s) : Nat) : Int)
  | 0, i, e => by
    obtain rfl : i = n := by omega
    refine Ev.step (f := fun _ => some ((min i (k * i / s) : Nat) : Int)) (fun q => ?_) (Ev.now _)
    show (if (_ : Int) ≤ _ then _ else _) = _
    rw [if_neg (by omega)]
  | d + 1, i, e => by
    have ih := ahead_loop hs hs2 hn hk d (i + 1) (by omega)
    refine Ev.step (fun q => ?_) ih
    show (if (_ : Int) ≤ _ then _ else _) = _
    have hm : (i + 1) * s ≤ 4096 * 512 := Nat.mul_le_mul (by omega) hs2
    have hm2 : k * n ≤ 512 * 4096 := Nat.mul_le_mul hk hn
    have e1 : ((i + 1 : Nat) : Int) * (s : Int) = (((i + 1) * s : Nat) : Int) := (Int.natCast_mul _ _).symm
    have e2 : (k : Int) * (n : Int) = ((k * n : Nat) : Int) := (Int.natCast_mul _ _).symm
    have hst := cnt_step (x := k * n) (i := i) hs rfl
    rw [if_pos (by omega), e1, e2, w64 (x := (((i + 1) * s : Nat) : Int)) (by omega) (by omega), w64 (x := ((k * n : Nat) : Int)) (by omega) (by omega), w64 (x := ((i + 1 : Nat) : Int) + 1) (by omega) (by omega)]
    by_cases h1 : (i + 1) * s ≤ k * n
    · rw [if_pos h1] at hst
      rw [if_pos (by omega), w64 (by omega) (by omega), ← hst]
      rfl
    · rw [if_neg h1] at hst
      rw [if_neg (by omega), ← hst]
      rfl
theorem ahead_ev {n s k : Nat} (hs : 0 < s) (hs2 : s ≤ 512) (hn : n ≤ 4096) (hk : k ≤ s) : Ev (fun q => punnetref04_Ahead.f q (n : Int) (s : Int) (k : Int)) ((k * n / s : Nat) : Int) := by
  have h := ahead_loop (n := n) (s := s) (k := k) hs hs2 hn (by omega) n 0 (by omega)
  have h1 : k * n / s ≤ n := by
    have : k * n ≤ s * n := Nat.mul_le_mul_right n hk
    calc k * n / s ≤ s * n / s := Nat.div_le_div_right this
      _ = n := Nat.mul_div_cancel_left n hs
  rw [Nat.min_eq_right h1, Nat.zero_min] at h
  exact h
theorem shares_loop {n s : Nat} (hs : 0 < s) (hs2 : s ≤ 512) (hn : n ≤ 4096) : ∀ d k : Nat, k + d = s → Ev (fun q => punnetref04_Shares.l0 q (n : Int) (s : Int) ((List.range k).map fun k => (shr n s k : Int)) (k : Int)) (shrL n s)
  | 0, k, e => by
    obtain rfl : k = s := by omega
    refine Ev.step (f := fun _ => some (shrL n k)) (fun q => ?_) (Ev.now _)
    show (if (_ : Int) < _ then _ else _) = _
    rw [if_neg (by omega)]
    rfl
  | d + 1, k, e => by
    have ih := shares_loop hs hs2 hn d (k + 1) (by omega)
    refine Ev.step (f := fun q => (punnetref04_Ahead.f q (n : Int) (s : Int) (wrap64 ((k : Int) + 1))).bind fun t129 => (punnetref04_Ahead.f q (n : Int) (s : Int) (k : Int)).bind fun t130 => if ((List.range k).map fun k => (shr n s k : Int)).length < 17592186044416 then punnetref04_Shares.l0 q (n : Int) (s : Int) (((List.range k).map fun k => (shr n s k : Int)) ++ [wrap64 (t129 - t130)]) (wrap64 ((k : Int) + 1)) else none) (fun q => ?_) ?_
    · show (if (_ : Int) < _ then _ else _) = _
      rw [if_pos (by omega)]
    · rw [w64 (x := (k : Int) + 1) (by omega) (by omega), show (k : Int) + 1 = ((k + 1 : Nat) : Int) by omega]
      have h1 := ahead_ev (n := n) (s := s) (k := k + 1) hs hs2 hn (by omega)
      have h2 := ahead_ev (n := n) (s := s) (k := k) hs hs2 hn (by omega)
      have hb1 : (k + 1) * n ≤ 512 * 4096 := Nat.mul_le_mul (by omega) hn
      have hb2 : (k + 1) * n / s ≤ (k + 1) * n := Nat.div_le_self _ _
      have hle := shr_le (n := n) (s := s) (k := k) (by omega)
      refine Ev.bind (f := fun q t129 => (punnetref04_Ahead.f q (n : Int) (s : Int) (k : Int)).bind fun t130 => if ((List.range k).map fun k => (shr n s k : Int)).length < 17592186044416 then punnetref04_Shares.l0 q (n : Int) (s : Int) (((List.range k).map fun k => (shr n s k : Int)) ++ [wrap64 (t129 - t130)]) ((k + 1 : Nat) : Int) else none) h1 ?_
      refine Ev.bind (f := fun q t130 => if ((List.range k).map fun k => (shr n s k : Int)).length < 17592186044416 then punnetref04_Shares.l0 q (n : Int) (s : Int) (((List.range k).map fun k => (shr n s k : Int)) ++ [wrap64 (((((k + 1) * n / s : Nat) : Int)) - t130)]) ((k + 1 : Nat) : Int) else none) h2 ?_
      have p1 : (0 : Int) ≤ (((k + 1) * n / s : Nat) : Int) := Int.natCast_nonneg _
      have p2 : (0 : Int) ≤ ((k * n / s : Nat) : Int) := Int.natCast_nonneg _
      refine Ev.congr (fun q => if_pos (by simp; omega)) ?_
      rw [w64 (by omega) (by omega)]
      have e2 : ((List.range k).map fun k => (shr n s k : Int)) ++ [((((k + 1) * n / s : Nat) : Int)) - ((k * n / s : Nat) : Int)] = (List.range (k + 1)).map fun k => (shr n s k : Int) := by
        rw [List.range_succ, List.map_append]
        simp only [List.map_cons, List.map_nil]
        congr 2
        unfold M1.shr
        omega
      rw [e2]
      exact ih
theorem refShares_any {n s : Nat} (hs : 0 < s) (hs2 : s ≤ 512) (hn : n ≤ 4096) (w : World) : Calls Tryd.prog 65 #[.int .i64 n, .int .i64 s] w fun e w' => ∃ v, e = .returned v ∧ Sep w w' [S1.Own v (shrL n s)] := by
  have h := shares_loop (n := n) (s := s) hs hs2 hn s 0 (by omega)
  obtain ⟨k, hk⟩ := h
  refine (punnetref04_Shares.calls k n s (shrL n s) w (hk k (Nat.le_refl _))).mono ?_
  rintro e w' ⟨v, rfl, hR, hb⟩
  exact ⟨v, rfl, (Sep.nil w).new_own hb (Kd.own_of_R hR)⟩
theorem power_ev : ∀ k : Nat, k < 11 → punnetref03_Power.f 20 (k : Int) = some ((2 ^ k : Nat) : Int) := by decide +kernel
theorem power_nat {k : Nat} (hk : k < 11) (w : World) : Calls Tryd.prog 22 #[.int .i64 k] w fun e w' => e = .returned (.int .i64 (pw k : Nat)) ∧ Drawn0 w w' :=
  punnetref03_Power.calls 20 _ _ w (power_ev k hk)
theorem refSum_any {w : World} {A : Option Addr} {c : Nat} {l : List Int} (hr : Kd.C (Kd.int .i64) w A l.length l) (hc : l.length ≤ c) (hg : goodL l) (hl : l.length ≤ 4096) {f n : Nat} (h : f + n ≤ l.length) : Calls Tryd.prog 60 #[.slice A l.length c, .int .i64 f, .int .i64 n] w fun e w' => e = .returned (.int .i64 (sumW l f n)) ∧ Drawn0 w w' := by
  obtain ⟨k, hk⟩ := refSum_ev hg hl h
  exact punnetref05_Sum.calls k A c l f n _ w hr hc (hk k (Nat.le_refl _))
end Go.Proofs.YtlaegahdignphaaDoor.O4
