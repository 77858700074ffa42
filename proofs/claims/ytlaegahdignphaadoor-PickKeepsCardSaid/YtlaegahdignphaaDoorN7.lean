/- Shares, plainly: how great they are, and what they are together; sums of rows of which one number is turned. -/
import Derived.Test.YtlaegahdignphaaDoorN3
namespace Go.Proofs.YtlaegahdignphaaDoor.N7
open Go.RowKit Go.Shelf Go.Proofs.YtlaegahdignphaaDoorW.PrintWords Go.Proofs.YtlaegahdignphaaDoorW.PrintLast Go.Proofs.YtlaegahdignphaaDoorW.PrintMore Q1 Q2 L1 L3 S1 M1 M2 M3 M4 M5 M6 M7 N3
set_option linter.unusedVariables false
set_option linter.unusedSimpArgs false

theorem shr_eq (n s k : Nat) : shr n s k = (k * n + n) / s - k * n / s := by unfold M1.shr; rw [Nat.succ_mul]
theorem add_div_bounds {a n s : Nat} (h : 0 < s) : a / s + n / s ≤ (a + n) / s ∧ (a + n) / s ≤ a / s + n / s + 1 := by
  have ha := Nat.div_add_mod a s
  have hn := Nat.div_add_mod n s
  have ha' := Nat.mod_lt a h
  have hn' := Nat.mod_lt n h
  constructor
  · rw [Nat.le_div_iff_mul_le h, Nat.add_mul]
    have h1 := Nat.div_mul_le_self a s
    have h2 := Nat.div_mul_le_self n s
    omega
  · have : (a + n) / s < a / s + n / s + 2 := by
      rw [Nat.div_lt_iff_lt_mul h]
      have e : (a / s + n / s + 2) * s = s * (a / s) + s * (n / s) + 2 * s := by rw [Nat.add_mul, Nat.add_mul, Nat.mul_comm (a / s), Nat.mul_comm (n / s)]
      omega
    omega
theorem shr_even {n s : Nat} (h : 0 < s) (k : Nat) : n / s ≤ shr n s k ∧ shr n s k ≤ n / s + 1 := by
  rw [shr_eq]
  have := add_div_bounds (a := k * n) (n := n) h
  generalize (k * n + n) / s = a at *
  generalize k * n / s = b at *
  generalize n / s = c at *
  omega
theorem shr_hi {n s q : Nat} (h : 0 < s) (hn : n ≤ q * s) (k : Nat) : shr n s k ≤ q := by
  rw [shr_eq]
  have h1 : (k * n + n) / s ≤ (k * n + q * s) / s := Nat.div_le_div_right (by omega)
  rw [Nat.add_mul_div_right _ _ h] at h1
  omega
theorem shr_lo {n s q : Nat} (h : 0 < s) (hn : q * s ≤ n) (k : Nat) : q ≤ shr n s k := by
  rw [shr_eq]
  have h1 : (k * n + q * s) / s ≤ (k * n + n) / s := Nat.div_le_div_right (by omega)
  rw [Nat.add_mul_div_right _ _ h] at h1
  omega
/-- The shares of the first segments, together. -/
theorem shr_sum (n s : Nat) (h : 0 < s) : ∀ i : Nat, ((List.range i).map fun k => (shr n s k : Int)).sum = ((i * n / s : Nat) : Int)
  | 0 => by simp
  | i + 1 => by
    rw [List.range_succ, List.map_append, List.sum_append, shr_sum n s h i]
    have := shr_le (n := n) (s := s) (k := i) (by omega)
    simp only [List.map_cons, List.map_nil, List.sum_cons, List.sum_nil, Int.add_zero]
    unfold M1.shr
    omega
theorem shrL_sum {n s : Nat} (h : 0 < s) : (shrL n s).sum = n := by
  unfold shrL
  rw [shr_sum n s h s, Nat.mul_div_cancel_left n h]
theorem shrL_get {n s k : Nat} (h : k < s) : (shrL n s).getD k 0 = shr n s k := by
  simp [shrL, List.getD_eq_getElem?_getD, h]
theorem shrL_take {n s i : Nat} (h : i ≤ s) : (shrL n s).take i = (List.range i).map fun k => (shr n s k : Int) := by
  unfold shrL
  rw [← List.map_take, List.take_range]
  congr 2
  omega
theorem shrL_part {n s f p : Nat} (h0 : 0 < s) (h : f + p ≤ s) : sumW (shrL n s) f p = (((f + p) * n / s : Nat) : Int) - ((f * n / s : Nat) : Int) := by
  have h1 : ((shrL n s).take (f + p)).sum = (((f + p) * n / s : Nat) : Int) := by rw [shrL_take h, shr_sum n s h0]
  have h2 : ((shrL n s).take f).sum = ((f * n / s : Nat) : Int) := by rw [shrL_take (by omega), shr_sum n s h0]
  rw [List.take_add, List.sum_append, h2] at h1
  unfold sumW
  omega
theorem sum_set : ∀ (l : List Int) (i : Nat) (v : Int), i < l.length → (l.set i v).sum = l.sum - l.getD i 0 + v
  | [], i, v, h => by simp at h
  | x :: l, 0, v, h => by simp; omega
  | x :: l, i + 1, v, h => by
    have ih := sum_set l i v (by simpa using h)
    simp only [List.set_cons_succ, List.sum_cons, List.getD_cons_succ, ih]
    omega
/-- A window in which one number is turned. -/
theorem sumW_set {l : List Int} {f p i : Nat} {v : Int} (h1 : f ≤ i) (h2 : i < f + p) (h3 : f + p ≤ l.length) : sumW (l.set i v) f p = sumW l f p - l.getD i 0 + v := by
  unfold sumW
  obtain ⟨j, rfl⟩ : ∃ j, i = f + j := ⟨i - f, by omega⟩
  rw [List.drop_set, if_neg (by omega), Nat.add_sub_cancel_left, List.take_set, sum_set _ _ _ (by simp; omega)]
  congr 2
  have h4 : j < p := by omega
  simp [List.getD_eq_getElem?_getD, List.getElem?_take, h4]
theorem sumW_rep {n f p : Nat} {x : Int} (h : f + p ≤ n) : sumW (List.replicate n x) f p = p * x := by
  unfold sumW
  rw [List.drop_replicate, List.take_replicate, Nat.min_eq_left (by omega), List.sum_replicate_int]
/-- The segment is in its window. -/
theorem wF_has (s k : Nat) : wF s k ≤ s ∧ s < wF s k + pw k := by
  unfold wF pw
  have := Nat.mod_lt s (Nat.two_pow_pos k)
  have := Nat.mod_le s (2 ^ k)
  omega
theorem withN_zero {n l h : Int} (h1 : h * n ≤ manyN l h) (h2 : fewN l h ≤ h * n) : withN n l h = 0 := by
  unfold withN
  rw [if_neg (by omega), if_neg (by omega)]
theorem withN_bounds {n l h : Int} (h0 : withN n l h = 0) : h * n ≤ manyN l h ∧ fewN l h ≤ h * n := by
  unfold withN at h0
  split at h0
  · cases h0
  · split at h0
    · cases h0
    · omega
/-- A spread of the greatest capacity, and the numbers over which none goes. -/
theorem big_caps {l : List Int} (h : l.length = 512) : Caps l ∧ hN l = 9 ∧ capB (8 * (l.length : Int)) = true := by
  have hc : capB (8 * (l.length : Int)) = true := by rw [h]; decide
  have hcp := caps_of hc
  refine ⟨hcp, ?_, hc⟩
  have := (h9_iff hcp).2 h
  omega
theorem lvl_has {l : List Int} {s k : Nat} (hk : k ≤ hN l) (h : okW l s k = true) : ∃ j, lvl l s = some j ∧ j ≤ k := by
  cases e : lvl l s with
  | none => have := lvl_not e k hk; rw [h] at this; cases this
  | some j =>
    refine ⟨j, rfl, ?_⟩
    rcases Nat.lt_or_ge k j with h1 | h1
    · have := (lvl_is e).2.2 k h1
      rw [h] at this; cases this
    · exact h1
/-- A half of the root is within. -/
theorem half_ok {l : List Int} {s : Nat} (h : l.length = 512) (h1 : 484 ≤ sumW l (wF s 8) (pw 8)) (h2 : sumW l (wF s 8) (pw 8) ≤ 1336) : okW l s 8 = true := by
  obtain ⟨hcp, h9, _⟩ := big_caps h
  unfold okW
  rw [h9]
  refine beq_iff_eq.2 (withN_zero ?_ ?_)
  · rw [show manyN ((8 : Nat) : Int) ((9 : Nat) : Int) = 12032 by decide]
    show ((9 : Nat) : Int) * sumW l (wF s 8) (pw 8) ≤ _
    omega
  · rw [show fewN ((8 : Nat) : Int) ((9 : Nat) : Int) = 4352 by decide]
    show _ ≤ ((9 : Nat) : Int) * sumW l (wF s 8) (pw 8)
    omega
theorem wF8 {s : Nat} (hs : s < 512) : wF s 8 = 0 ∨ wF s 8 = 256 := by
  unfold wF
  have : s / 256 = 0 ∨ s / 256 = 1 := by omega
  have := Nat.div_add_mod s 256
  simp only [Nat.reducePow]
  omega
theorem pick_win {l : List Int} {s j : Nat} (h : lvl l s = some j) : pickN l s = ((1 : Int), ((wF s j : Nat) : Int), ((pw j : Nat) : Int), 8 * (l.length : Int), (0 : Int)) := by unfold pickN; rw [h]
theorem full_one {n s : Nat} (h1 : 2000 ≤ n) (h2 : n ≤ 2560) (hs : s < 512) : ∃ j, lvl ((shrL n 512).set s ((shr n 512 s : Int) + 1)) s = some j := by
  have hl : ((shrL n 512).set s ((shr n 512 s : Int) + 1)).length = 512 := by simp [shrL]
  have h8 : hN ((shrL n 512).set s ((shr n 512 s : Int) + 1)) = 9 := (big_caps hl).2.1
  have hw := wF_has s 8
  have hf := wF8 hs
  have hp : pw 8 = 256 := rfl
  have hv : sumW ((shrL n 512).set s ((shr n 512 s : Int) + 1)) (wF s 8) (pw 8) = sumW (shrL n 512) (wF s 8) (pw 8) + 1 := by
    rw [sumW_set hw.1 hw.2 (by simp [shrL]; omega), shrL_get hs]
    omega
  have hb : sumW (shrL n 512) (wF s 8) (pw 8) = (((wF s 8 + 256) * n / 512 : Nat) : Int) - ((wF s 8 * n / 512 : Nat) : Int) := by
    rw [hp]; exact shrL_part (by omega) (by omega)
  have hok := half_ok (s := s) hl (by
    rw [hv, hb]
    rcases hf with e | e <;> rw [e] <;> omega) (by
    rw [hv, hb]
    rcases hf with e | e <;> rw [e] <;> omega)
  obtain ⟨j, hj, _⟩ := lvl_has (by rw [h8]; omega) hok
  exact ⟨j, hj⟩
theorem rep_len (n s : Nat) (x v : Int) : ((List.replicate n x).set s v).length = n := by simp
theorem rep_len0 (n : Nat) (x : Int) : (List.replicate n x).length = n := by simp
theorem rep_get {n s : Nat} (x : Int) (h : s < n) : (List.replicate n x).getD s 0 = x := by simp [List.getD_eq_getElem?_getD, h]
theorem full_two {s : Nat} (hs : s < 512) : ∃ j, lvl ((List.replicate 512 5).set s 8) s = some j ∧ 1 ≤ j := by
  have hl : ((List.replicate 512 (5 : Int)).set s 8).length = 512 := rep_len _ _ _ _
  have h8 : hN ((List.replicate 512 (5 : Int)).set s 8) = 9 := (big_caps hl).2.1
  have hw := wF_has s 8
  have hf := wF8 hs
  have hp : pw 8 = 256 := rfl
  have hg : (List.replicate 512 (5 : Int)).getD s 0 = 5 := rep_get _ hs
  have hv : sumW ((List.replicate 512 (5 : Int)).set s 8) (wF s 8) (pw 8) = 1283 := by
    rw [sumW_set hw.1 hw.2 (by rw [rep_len0]; omega), hg, hp, sumW_rep (by omega)]
    rfl
  obtain ⟨j, hj, _⟩ := lvl_has (by rw [h8]; omega) (half_ok (s := s) hl (by rw [hv]; omega) (by rw [hv]; omega))
  refine ⟨j, hj, ?_⟩
  rcases Nat.eq_zero_or_pos j with rfl | h
  · have h0 := (lvl_is hj).2.1
    have hw0 := wF_has s 0
    unfold okW at h0
    rw [h8, show (2 ^ 0 : Nat) = pw 0 from rfl, sumW_set hw0.1 hw0.2 (by have : pw 0 = 1 := rfl; rw [rep_len0]; omega), hg, show pw 0 = 1 from rfl, sumW_rep (by have : pw 0 = 1 := rfl; omega)] at h0
    exact absurd h0 (by decide)
  · exact h
theorem full_three {s : Nat} (hs : s < 512) : pickN ((List.replicate 512 7).set s 8) s = (0, 0, 0, 0, 16) := by
  have hl : ((List.replicate 512 (7 : Int)).set s 8).length = 512 := rep_len _ _ _ _
  have h8 : hN ((List.replicate 512 (7 : Int)).set s 8) = 9 := (big_caps hl).2.1
  have hg : (List.replicate 512 (7 : Int)).getD s 0 = 7 := rep_get _ hs
  have hsum : ((List.replicate 512 (7 : Int)).set s 8).sum = 3585 := by
    rw [sum_set _ _ _ (by rw [rep_len0]; exact hs), hg, List.sum_replicate_int]; rfl
  have hn : lvl ((List.replicate 512 (7 : Int)).set s 8) s = none := lvl_none fun j hj => by
    rw [h8] at hj
    have hcp := (big_caps hl).1
    have hwj := wF_has s j
    have hin := wF_in hcp (s := s) (k := j) (by rw [hl]; exact hs) (by rw [h8]; exact hj)
    rw [hl] at hin
    unfold okW
    rw [h8, show (2 ^ j : Nat) = pw j from rfl, sumW_set hwj.1 hwj.2 (by rw [rep_len0]; exact hin), hg, sumW_rep hin]
    have : ∀ j, j ≤ 9 → (withN ((pw j : Nat) * 7 - 7 + 8) (j : Nat) ((9 : Nat) : Int) == 0) = false := by decide
    exact this j hj
  unfold pickN
  rw [hn]
  dsimp only
  rw [hsum, h8, hl, if_neg (by decide), if_pos rfl]
end Go.Proofs.YtlaegahdignphaaDoor.N7
