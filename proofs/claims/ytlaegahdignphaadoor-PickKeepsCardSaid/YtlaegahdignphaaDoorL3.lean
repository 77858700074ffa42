/- What the reference of level computes, and the window, the segment, the test within: closed facts over the few levels and capacities, and contracts. -/
import Derived.Test.YtlaegahdignphaaDoorL1
namespace Go.Proofs.YtlaegahdignphaaDoor.L3
open Go.RowKit Go.Proofs.YtlaegahdignphaaDoorW.PrintWords Go.Proofs.YtlaegahdignphaaDoorW.PrintLast Go.Proofs.YtlaegahdignphaaDoorW.PrintMore Q1 L1
set_option linter.unusedVariables false
set_option linter.unusedSimpArgs false

/-! Capacities. -/
theorem w64r {x : Int} (h : -9223372036854775808 ≤ x) (h2 : x ≤ 9223372036854775807) : wrap64 x = x := by
  unfold wrap64; omega
theorem height_cap : ∀ s ∈ ([32, 64, 128, 256, 512, 1024, 2048, 4096] : List Int), punnetref03_Height.f 20 s = some (hgt s) ∧ punnetref03_Power.f 20 (hgt s) = some (s / 8) ∧ 0 ≤ hgt s := by decide +kernel
theorem pow_at : ∀ k, k < 8 → punnetref03_Power.f (19 - k) ((2 + k : Nat) : Int) = some (4 * 2 ^ k) := by decide +kernel
theorem height_no {s : Int} (h : capB s = false) : punnetref03_Height.f 20 s = some (-1) := by
  have hs := of_decide_eq_false h
  have go : ∀ q k : Nat, k + q = 8 → punnetref03_Height.l0 (20 - k) s ((2 + k : Nat) : Int) = some (-1) := by
    intro q
    induction q with
    | zero =>
      intro k hk
      obtain rfl : k = 8 := by omega
      simp [punnetref03_Height.l0]
    | succ q ih =>
      intro k hk
      have e : 20 - k = (19 - k) + 1 := by omega
      rw [e, punnetref03_Height.l0, if_pos (by omega), pow_at k (by omega), Option.bind_some]
      have h1 : wrap64 (8 * (4 * 2 ^ k)) ≠ s := by
        have : ∀ j, j < 8 → wrap64 (8 * (4 * 2 ^ j)) ∈ ([32, 64, 128, 256, 512, 1024, 2048, 4096] : List Int) := by decide +kernel
        have := this k (by omega)
        intro e
        rw [e] at this
        simp only [List.mem_cons, List.not_mem_nil, or_false] at this
        exact hs this
      rw [if_neg (fun e => h1 e.symm), w64r (by omega) (by omega)]
      have := ih (k + 1) (by omega)
      rw [show 20 - (k + 1) = 19 - k by omega] at this
      exact this
  exact go 8 0 rfl
def refH (s : Int) : Int := if capB s then hgt s else -1
theorem refHeight_any (s : Int) (w : World) : Calls Tryd.prog 18 #[.int .i64 s] w fun e w' => e = .returned (.int .i64 (refH s)) ∧ Drawn0 w w' := by
  refine punnetref03_Height.calls 20 s _ w ?_
  unfold refH
  cases hc : capB s with
  | true => exact (height_cap s (cap_mem hc)).1
  | false => exact height_no hc
theorem power_any {s : Int} (hc : capB s = true) (w : World) : Calls Tryd.prog 22 #[.int .i64 (hgt s)] w fun e w' => e = .returned (.int .i64 (s / 8)) ∧ Drawn0 w w' :=
  punnetref03_Power.calls 20 _ _ w (height_cap s (cap_mem hc)).2.1
def slotB (s : Int) : Bool := decide (0 ≤ s ∧ s ≤ 4095)
theorem seg_f (s : Int) : level_Seg.f s = some (if slotB s then s / 8 else 0, if slotB s then 0 else 10) := by
  simp only [level_Seg.f, level_between.f, slotB]
  by_cases h0 : s ≥ 0
  · rw [if_pos h0]
    by_cases h1 : s ≤ 4095
    · have e : s.tdiv 8 = s / 8 := Int.tdiv_eq_ediv_of_nonneg h0
      simp [h0, h1, e]
      exact w64r (by omega) (by omega)
    · simp [h0, h1]
  · rw [if_neg h0]
    simp [h0]
theorem seg_any (s : Int) (w : World) : Calls Tryd.prog 23 #[.int .i64 s] w fun e w' => e = .returned (.tuple #[.int .i64 (if slotB s then s / 8 else 0), .int .i64 (if slotB s then 0 else 10)]) ∧ Drawn0 w w' := level_Seg.calls s _ _ w (seg_f s)

/-! Windows. -/
def winB (s l : Int) : Bool := decide (0 ≤ s ∧ s ≤ 511 ∧ 0 ≤ l ∧ l ≤ 9)
def wFirst (s l : Int) : Int := s - s % 2 ^ l.toNat
def wMany (l : Int) : Int := 2 ^ l.toNat
set_option maxRecDepth 100000 in
theorem win_small : ∀ l : Nat, l < 10 → ∀ s : Nat, s < 512 → level_Window.f s l = some (wFirst s l, wMany l, 0) ∧ punnetref03_Window.f 20 s l = some (wFirst s l, wMany l) := by decide +kernel
theorem win_dom {p : Int → Int → Prop} (hp : ∀ l : Nat, l < 10 → ∀ s : Nat, s < 512 → p s l) {s l : Int} (hm : winB s l = true) : p s l := by
  have := of_decide_eq_true hm
  obtain ⟨sn, rfl⟩ := Int.eq_ofNat_of_zero_le (show 0 ≤ s by omega)
  obtain ⟨ln, rfl⟩ := Int.eq_ofNat_of_zero_le (show 0 ≤ l by omega)
  exact hp ln (by omega) sn (by omega)
def winF (s l : Int) : Int := if winB s l then wFirst s l else 0
def winM (s l : Int) : Int := if winB s l then wMany l else 0
def winE (s l : Int) : Int := if winB s l then 0 else 10
theorem win_f (s l : Int) : level_Window.f s l = some (winF s l, winM s l, winE s l) := by
  unfold winF winM winE
  cases hw : winB s l with
  | true => exact (win_dom (p := fun s l => level_Window.f s l = some (wFirst s l, wMany l, 0) ∧ punnetref03_Window.f 20 s l = some (wFirst s l, wMany l)) win_small hw).1
  | false =>
    have hn := of_decide_eq_false hw
    simp only [level_Window.f, level_between.f]
    by_cases h0 : s ≥ 0
    · rw [if_pos h0]
      by_cases h1 : s ≤ 511
      · rw [decide_eq_true h1]
        by_cases h2 : l ≥ 0
        · rw [if_pos h2, decide_eq_false (show ¬ l ≤ 9 by omega)]
          simp
        · rw [if_neg h2]
          simp
      · rw [decide_eq_false h1]
        simp
    · rw [if_neg h0]
      simp
theorem window_any (s l : Int) (w : World) : Calls Tryd.prog 24 #[.int .i64 s, .int .i64 l] w fun e w' => e = .returned (.tuple #[.int .i64 (winF s l), .int .i64 (winM s l), .int .i64 (winE s l)]) ∧ Drawn0 w w' := level_Window.calls s l _ _ _ w (win_f s l)
theorem refWindow_any {s l : Int} (hw : winB s l = true) (w : World) : Calls Tryd.prog 25 #[.int .i64 s, .int .i64 l] w fun e w' => e = .returned (.tuple #[.int .i64 (wFirst s l), .int .i64 (wMany l)]) ∧ Drawn0 w w' :=
  punnetref03_Window.calls 20 s l _ _ w (win_dom (p := fun s l => level_Window.f s l = some (wFirst s l, wMany l, 0) ∧ punnetref03_Window.f 20 s l = some (wFirst s l, wMany l)) win_small hw).2

/-! Bounds. -/
theorem levels_any (l h : Int) (w : World) : Calls Tryd.prog 29 #[.int .i64 l, .int .i64 h] w fun e w' => e = .returned (.bool (mayB l h)) ∧ Drawn0 w w' := by
  refine punnetref03_Levels.calls l h _ w ?_
  unfold punnetref03_Levels.f mayB
  by_cases h1 : h ≥ 2 <;> by_cases h2 : h ≤ 9 <;> by_cases h3 : l ≥ 0 <;> simp [h1, h2, h3]
theorem refUp_small : ∀ h : Nat, h < 10 → 2 ≤ h → ∀ l : Nat, l < h + 1 → punnetref03_Upper.f 3700 l h = some (upN l h) := by decide +kernel
theorem refLo_small : ∀ h : Nat, h < 10 → 2 ≤ h → ∀ l : Nat, l < h + 1 → punnetref03_Lower.f 3700 l h = some (loN l h) := by decide +kernel
theorem refUpper_any {l h : Int} (hm : mayB l h = true) (w : World) : Calls Tryd.prog 30 #[.int .i64 l, .int .i64 h] w fun e w' => e = .returned (.int .i64 (upN l h)) ∧ Drawn0 w w' :=
  punnetref03_Upper.calls 3700 l h _ w (dom (p := fun l h => punnetref03_Upper.f 3700 l h = some (upN l h)) refUp_small hm)
theorem refLower_any {l h : Int} (hm : mayB l h = true) (w : World) : Calls Tryd.prog 31 #[.int .i64 l, .int .i64 h] w fun e w' => e = .returned (.int .i64 (loN l h)) ∧ Drawn0 w w' :=
  punnetref03_Lower.calls 3700 l h _ w (dom (p := fun l h => punnetref03_Lower.f 3700 l h = some (loN l h)) refLo_small hm)

/-! Within. -/
def withN (n l h : Int) : Int := if h * n > manyN l h then 1 else if h * n < fewN l h then -1 else 0
def wiN (n l h : Int) : Int := if mayB l h = false then 0 else if n < 0 then 0 else withN n l h
def wiE (n l h : Int) : Int := if mayB l h = false then 10 else if n < 0 then 1 else 0
theorem many_small1 {l h : Int} (hm : mayB l h = true) : 0 ≤ manyN l h ∧ manyN l h ≤ 3584 * h ∧ 0 ≤ fewN l h ∧ fewN l h ≤ 1024 * h :=
  dom (p := fun l h => 0 ≤ manyN l h ∧ manyN l h ≤ 3584 * h ∧ 0 ≤ fewN l h ∧ fewN l h ≤ 1024 * h) (by decide +kernel) hm
theorem many_small2 {l h : Int} (hm : mayB l h = true) : punnetref03_Power.f 19 l = some (2 ^ l.toNat) ∧ punnetref03_Power.f 18 l = some (2 ^ l.toNat) :=
  dom (p := fun l h => punnetref03_Power.f 19 l = some (2 ^ l.toNat) ∧ punnetref03_Power.f 18 l = some (2 ^ l.toNat)) (by decide +kernel) hm
theorem many_small3 {l h : Int} (hm : mayB l h = true) : wrap64 (2 ^ l.toNat * wrap64 (wrap64 (7 * h) - wrap64 (2 * l))) = manyN l h ∧ wrap64 (2 ^ l.toNat * wrap64 (h + l)) = (h + l) * 2 ^ l.toNat :=
  dom (p := fun l h => wrap64 (2 ^ l.toNat * wrap64 (wrap64 (7 * h) - wrap64 (2 * l))) = manyN l h ∧ wrap64 (2 ^ l.toNat * wrap64 (h + l)) = (h + l) * 2 ^ l.toNat) (by decide +kernel) hm
theorem many_small {l h : Int} (hm : mayB l h = true) : (0 ≤ manyN l h ∧ manyN l h ≤ 3584 * h ∧ 0 ≤ fewN l h ∧ fewN l h ≤ 1024 * h) ∧ punnetref03_Power.f 19 l = some (2 ^ l.toNat) ∧ punnetref03_Power.f 18 l = some (2 ^ l.toNat) ∧ wrap64 (2 ^ l.toNat * wrap64 (wrap64 (7 * h) - wrap64 (2 * l))) = manyN l h ∧ wrap64 (2 ^ l.toNat * wrap64 (h + l)) = (h + l) * 2 ^ l.toNat :=
  ⟨many_small1 hm, (many_small2 hm).1, (many_small2 hm).2, many_small3 hm⟩
theorem mul_bounds {n h : Int} (h2 : 2 ≤ h) (h9 : h ≤ 9) (hn : 0 ≤ n) : 2 * n ≤ h * n ∧ h * n ≤ 9 * n := ⟨Int.mul_le_mul_of_nonneg_right h2 hn, Int.mul_le_mul_of_nonneg_right h9 hn⟩
theorem j0_eq (n l h : Int) (b : Bool) : level_Within.j0 20 n l h b = if b = true then some (1, 0) else ((level_few.f l h).bind fun t110 => if wrap64 (h * n) < t110 then some (-1, 0) else some (0, 0)) := rfl
theorem j1_eq (n l h : Int) (b : Bool) : punnetref03_Within.j0 19 n l h b = if b = true then some 1 else ((punnetref03_Few.f 18 n l h).bind fun t116 => if t116 = true then some (-1) else some 0) := rfl
theorem within_f (n l h : Int) : level_Within.f 20 n l h = some (wiN n l h, wiE n l h) := by
  unfold wiN wiE level_Within.f
  rw [lmay_f, Option.bind_some]
  cases hm : mayB l h with
  | false => simp
  | true =>
    have hd := of_decide_eq_true hm
    obtain ⟨hb, _, _, _⟩ := many_small hm
    show (if n < 0 then some (0, 1) else if n > 4096 then level_Within.j0 20 n l h true else (level_many.f l h).bind fun t109 => level_Within.j0 20 n l h (decide (wrap64 (h * n) > t109))) = some (if n < 0 then 0 else withN n l h, if n < 0 then 1 else 0)
    by_cases h0 : n < 0
    · rw [if_pos h0, if_pos h0, if_pos h0]
    · rw [if_neg h0, if_neg h0, if_neg h0]
      have hmul := mul_bounds (n := n) hd.1 hd.2.1 (by omega)
      by_cases h1 : n > 4096
      · rw [if_pos h1]
        have : h * n > manyN l h := by
          have : h * 4097 ≤ h * n := Int.mul_le_mul_of_nonneg_left (by omega) (by omega)
          omega
        unfold withN
        rw [if_pos this]
        rfl
      · rw [if_neg h1, many_f hm, Option.bind_some, w64r (by omega) (by omega)]
        unfold withN
        rw [j0_eq]
        by_cases h2 : h * n > manyN l h
        · rw [decide_eq_true h2, if_pos h2]; rfl
        · rw [decide_eq_false h2, if_neg h2, if_neg Bool.false_ne_true, few_f hm, Option.bind_some, w64r (by omega) (by omega)]
          by_cases h3 : h * n < fewN l h
          · rw [if_pos h3, if_pos h3]
          · rw [if_neg h3, if_neg h3]
theorem within_any (n l h : Int) (w : World) : Calls Tryd.prog 28 #[.int .i64 n, .int .i64 l, .int .i64 h] w fun e w' => e = .returned (.tuple #[.int .i64 (wiN n l h), .int .i64 (wiE n l h)]) ∧ Drawn0 w w' := level_Within.calls 20 n l h _ _ w (within_f n l h)
theorem refFew_f {n l h : Int} (hm : mayB l h = true) (h0 : 0 ≤ n) (hn : n ≤ 100000) (k : Nat) (hp : punnetref03_Power.f k l = some (2 ^ l.toNat)) : punnetref03_Few.f k n l h = some (decide (h * n < fewN l h)) := by
  have hd := of_decide_eq_true hm
  obtain ⟨hb, _, _, _, hF⟩ := many_small hm
  have hmul := mul_bounds (n := n) hd.1 hd.2.1 h0
  unfold punnetref03_Few.f
  by_cases h2 : h > 2
  · rw [if_pos h2, hp, Option.bind_some, hF, w64r (x := h * n) (by omega) (by omega)]
    unfold fewN
    rw [if_neg (by omega)]
  · rw [if_neg h2]
    have : fewN l h = 0 := by unfold fewN; rw [if_pos (by omega)]
    rw [this, decide_eq_false (by omega)]
theorem refWithin_any {n l h : Int} (hm : mayB l h = true) (h0 : 0 ≤ n) (w : World) : Calls Tryd.prog 32 #[.int .i64 n, .int .i64 l, .int .i64 h] w fun e w' => e = .returned (.int .i64 (withN n l h)) ∧ Drawn0 w w' := by
  refine punnetref03_Within.calls 19 n l h _ w ?_
  have hd := of_decide_eq_true hm
  obtain ⟨hb, hp19, hp18, hM, hF⟩ := many_small hm
  have hmul := mul_bounds (n := n) hd.1 hd.2.1 h0
  unfold punnetref03_Within.f withN
  by_cases h1 : n > 100000
  · have : h * n > manyN l h := by
      have : h * 100001 ≤ h * n := Int.mul_le_mul_of_nonneg_left (by omega) (by omega)
      omega
    rw [if_pos h1, if_pos this]
    rfl
  · rw [if_neg h1]
    unfold punnetref03_Many.f
    rw [hp19, Option.bind_some, Option.bind_some, hM, w64r (x := h * n) (by omega) (by omega)]
    rw [j1_eq]
    by_cases h2 : h * n > manyN l h
    · rw [decide_eq_true h2, if_pos h2]; rfl
    · rw [decide_eq_false h2, if_neg h2, if_neg Bool.false_ne_true, refFew_f hm h0 (by omega) 18 hp18, Option.bind_some]
      by_cases h3 : h * n < fewN l h
      · rw [decide_eq_true h3, if_pos h3]; rfl
      · rw [decide_eq_false h3, if_neg h3]; rfl
end Go.Proofs.YtlaegahdignphaaDoor.L3
