/- The search by halves, plain: what it tells, and where keys rise. No program in sight. -/
import Derived.Test.YtbjkncgpoengaaaDoorG9
namespace Go.Proofs.YtbjkncgpoengaaaDoor.F1
open Go.RowKit Go.Proofs.YtbjkncgpoengaaaDoorW.PrintWords G1 G0 G3 G4 G8 G9
set_option linter.unusedVariables false

/-- The search by halves: from lo up to hi, what is found, how many were compared. -/
def half (f : Nat → Bool) (xs : List Int) (n : Nat) (q : Int → Bool) : Nat → Nat → Nat → Int → Nat → Int × Nat
  | 0, _, _, r, c => (r, c)
  | k + 1, lo, hi, r, c =>
    if hi ≤ lo then (r, c) else
    if nextI f n ((lo + (hi - lo) / 2 : Nat) : Int) < 0 ∨ (hi : Int) ≤ nextI f n ((lo + (hi - lo) / 2 : Nat) : Int) then half f xs n q k lo (lo + (hi - lo) / 2) r c else
    if q (xs.getD (nextI f n ((lo + (hi - lo) / 2 : Nat) : Int)).toNat 0) then half f xs n q k ((nextI f n ((lo + (hi - lo) / 2 : Nat) : Int)).toNat + 1) hi r (c + 1)
    else half f xs n q k lo (lo + (hi - lo) / 2) (nextI f n ((lo + (hi - lo) / 2 : Nat) : Int)) (c + 1)
def srch (f : Nat → Bool) (xs : List Int) (n : Nat) (q : Int → Bool) : Int × Nat := half f xs n q (n + 1) 0 n (-1) 0
/-- One pass. -/
theorem half_done {f : Nat → Bool} {xs : List Int} {n : Nat} {q : Int → Bool} {k lo hi : Nat} {r : Int} {c : Nat} (h : hi ≤ lo) (hk : hi - lo < k) : half f xs n q k lo hi r c = (r, c) := by
  obtain ⟨k, rfl⟩ : ∃ j, k = j + 1 := ⟨k - 1, by omega⟩
  simp only [half]
  rw [if_pos h]
theorem half_none {f : Nat → Bool} {xs : List Int} {n : Nat} {q : Int → Bool} {k lo hi : Nat} {r : Int} {c : Nat} (h : lo < hi) (hk : hi - lo < k + 1) {p : Int} (hp : nextI f n ((lo + (hi - lo) / 2 : Nat) : Int) = p) (hp2 : p < 0 ∨ (hi : Int) ≤ p) : half f xs n q (k + 1) lo hi r c = half f xs n q k lo (lo + (hi - lo) / 2) r c := by
  rw [half]
  rw [if_neg (by omega), hp, if_pos hp2]
theorem half_yes {f : Nat → Bool} {xs : List Int} {n : Nat} {q : Int → Bool} {k lo hi : Nat} {r : Int} {c : Nat} (h : lo < hi) (hk : hi - lo < k + 1) {t : Nat} (hp : nextI f n ((lo + (hi - lo) / 2 : Nat) : Int) = t) (hp2 : t < hi) (hq : q (xs.getD t 0) = true) : half f xs n q (k + 1) lo hi r c = half f xs n q k (t + 1) hi r (c + 1) := by
  rw [half]
  rw [if_neg (by omega), hp, if_neg (by omega), Int.toNat_natCast, if_pos hq]
theorem half_no {f : Nat → Bool} {xs : List Int} {n : Nat} {q : Int → Bool} {k lo hi : Nat} {r : Int} {c : Nat} (h : lo < hi) (hk : hi - lo < k + 1) {t : Nat} (hp : nextI f n ((lo + (hi - lo) / 2 : Nat) : Int) = t) (hp2 : t < hi) (hq : q (xs.getD t 0) = false) : half f xs n q (k + 1) lo hi r c = half f xs n q k lo (lo + (hi - lo) / 2) t (c + 1) := by
  rw [half]
  rw [if_neg (by omega), hp, if_neg (by omega), Int.toNat_natCast, hq]
  simp
/-- What is found is a slot that is on, or -1. -/
theorem half_at {f : Nat → Bool} {xs : List Int} {n : Nat} {q : Int → Bool} : ∀ (k lo hi : Nat) (r : Int) (c : Nat), hi ≤ n → (r = -1 ∨ ∃ t : Nat, r = t ∧ t < n ∧ f t = true) → ((half f xs n q k lo hi r c).1 = -1 ∨ ∃ t : Nat, (half f xs n q k lo hi r c).1 = t ∧ t < n ∧ f t = true) := by
  intro k
  induction k with
  | zero => intro lo hi r c hn hr; exact hr
  | succ k ih =>
    intro lo hi r c hn hr
    by_cases h : hi ≤ lo
    · simp only [half]; rw [if_pos h]; exact hr
    · rcases next_cases f n (lo + (hi - lo) / 2) (by omega) with ⟨e, h2⟩ | ⟨t, e, h1, h2, h3, h4⟩
      · simp only [half]
        rw [if_neg h, e, if_pos (.inl (by omega))]
        exact ih _ _ _ _ (by omega) hr
      · simp only [half]
        rw [if_neg h, e]
        by_cases ht : (t : Int) < 0 ∨ (hi : Int) ≤ t
        · rw [if_pos ht]
          exact ih _ _ _ _ (by omega) hr
        · rw [if_neg ht]
          split
          · exact ih _ _ _ _ hn hr
          · exact ih _ _ _ _ (by omega) (.inr ⟨t, rfl, h2, h3⟩)
theorem srch_at (f : Nat → Bool) (xs : List Int) (n : Nat) (q : Int → Bool) : (srch f xs n q).1 = -1 ∨ ∃ t : Nat, (srch f xs n q).1 = t ∧ t < n ∧ f t = true := half_at _ _ _ _ _ (Nat.le_refl _) (.inl rfl)
theorem half_le {f : Nat → Bool} {xs : List Int} {n : Nat} {q : Int → Bool} : ∀ (k lo hi : Nat) (r : Int) (c : Nat), hi ≤ n → (half f xs n q k lo hi r c).2 ≤ c + (hi - lo) := by
  intro k
  induction k with
  | zero => intro lo hi r c hn; exact Nat.le_add_right _ _
  | succ k ih =>
    intro lo hi r c hn
    by_cases h : hi ≤ lo
    · simp only [half]; rw [if_pos h]; exact Nat.le_add_right _ _
    · rcases next_cases f n (lo + (hi - lo) / 2) (by omega) with ⟨e, h2⟩ | ⟨t, e, h1, h2, h3, h4⟩
      · simp only [half]
        rw [if_neg h, e, if_pos (.inl (by omega))]
        have := ih lo (lo + (hi - lo) / 2) r c (by omega)
        omega
      · simp only [half]
        rw [if_neg h, e]
        by_cases ht : (t : Int) < 0 ∨ (hi : Int) ≤ t
        · rw [if_pos ht]
          have := ih lo (lo + (hi - lo) / 2) r c (by omega)
          omega
        · rw [if_neg ht]
          split
          · have := ih ((t : Int).toNat + 1) hi r (c + 1) hn
            omega
          · have := ih lo (lo + (hi - lo) / 2) t (c + 1) (by omega)
            omega
theorem srch_le (f : Nat → Bool) (xs : List Int) (n : Nat) (q : Int → Bool) : (srch f xs n q).2 ≤ n := by
  have := half_le (f := f) (xs := xs) (q := q) (n + 1) 0 n (-1) 0 (Nat.le_refl n)
  unfold srch
  omega
end Go.Proofs.YtbjkncgpoengaaaDoor.F1
