/- Plain facts: what a move does to the rows of items and places. No program in sight. -/
import Derived.Test.YtbjkncgpoengaaaDoorG10
namespace Go.Proofs.YtbjkncgpoengaaaDoor.G16
open Go.RowKit Go.Proofs.YtbjkncgpoengaaaDoorW.PrintWords G1 G0 G3 G4 G6 G8 G9 G10
set_option linter.unusedVariables false

/-- The items of some slots on end. -/
def seg (f : Nat → Bool) (xs : List Int) : Nat → Nat → List Int
  | _, 0 => []
  | a, d + 1 => (if f a then [xs.getD a 0] else []) ++ seg f xs (a + 1) d
theorem seg_add (f : Nat → Bool) (xs : List Int) : ∀ d a e, seg f xs a (d + e) = seg f xs a d ++ seg f xs (a + d) e := by
  intro d
  induction d with
  | zero => intro a e; rw [Nat.zero_add, Nat.add_zero]; rfl
  | succ d ih =>
    intro a e
    rw [show d + 1 + e = (d + e) + 1 by omega]
    simp only [seg]
    rw [ih (a + 1) e, List.append_assoc, show a + 1 + d = a + (d + 1) by omega]
theorem seg_one (f : Nat → Bool) (xs : List Int) (a : Nat) : seg f xs a 1 = if f a then [xs.getD a 0] else [] := by
  simp only [seg, List.append_nil]
theorem seg_congr {f g : Nat → Bool} {xs ys : List Int} : ∀ d a, (∀ q, a ≤ q → q < a + d → f q = g q ∧ xs.getD q 0 = ys.getD q 0) → seg f xs a d = seg g ys a d := by
  intro d
  induction d with
  | zero => intro a h; rfl
  | succ d ih =>
    intro a h
    simp only [seg]
    rw [ih (a + 1) (fun q h1 h2 => h q (by omega) (by omega)), (h a (by omega) (by omega)).1, (h a (by omega) (by omega)).2]
theorem seg_none {f : Nat → Bool} {xs : List Int} : ∀ d a, (∀ q, a ≤ q → q < a + d → f q = false) → seg f xs a d = [] := by
  intro d
  induction d with
  | zero => intro a h; rfl
  | succ d ih =>
    intro a h
    simp only [seg]
    rw [ih (a + 1) (fun q h1 h2 => h q (by omega) (by omega)), h a (by omega) (by omega)]
    rfl
theorem vals_seg (f : Nat → Bool) (xs : List Int) : ∀ n, vals (ons f xs n) = seg f xs 0 n := by
  intro n
  induction n with
  | zero => rfl
  | succ n ih =>
    rw [seg_add f xs n 0 1, ← ih, seg_one, Nat.zero_add, ons_succ]
    unfold vals
    rw [List.map_append]
    split <;> rfl
theorem cntF_flat {f : Nat → Bool} : ∀ (d a : Nat), cntF f (a + d) = cntF f a → ∀ q, a ≤ q → q < a + d → f q = false := by
  intro d
  induction d with
  | zero => intro a _ q h1 h2; omega
  | succ d ih =>
    intro a h q h1 h2
    have e : cntF f (a + (d + 1)) = (if f (a + d) then 1 else 0) + cntF f (a + d) ∨ cntF f (a + (d + 1)) = cntF f (a + d) + (if f (a + d) then 1 else 0) := by
      first
        | exact .inr rfl
        | exact .inl rfl
    have h3 : cntF f a ≤ cntF f (a + d) := cntF_mono f (by omega)
    cases hf : f (a + d) with
    | true =>
      rw [hf, if_pos rfl] at e
      omega
    | false =>
      rw [hf, if_neg (by decide)] at e
      by_cases hq : q = a + d
      · rw [hq]; exact hf
      · exact ih a (by omega) q h1 (by omega)
/-- No element between: the items stand as they stood. -/
theorem move_items {f : Nat → Bool} {xs : List Int} {n k m : Nat} (hk : k < n) (hm : m < n) (hx : xs.length = n) (hf : f k = true) (hf2 : f m = false) (hb : cntF f (max k m) = cntF f (min k m + 1)) :
    vals (ons (upd (upd f k false) m true) ((xs.set k 0).set m (xs.getD k 0)) n) = vals (ons f xs n) := by
  have hne : k ≠ m := by rintro rfl; rw [hf] at hf2; cases hf2
  rw [vals_seg, vals_seg]
  have hfl := cntF_flat (f := f) (max k m - (min k m + 1)) (min k m + 1) (by rw [show min k m + 1 + (max k m - (min k m + 1)) = max k m by omega]; exact hb)
  have u1 : ∀ q, q ≠ k → q ≠ m → upd (upd f k false) m true q = f q ∧ ((xs.set k 0).set m (xs.getD k 0)).getD q 0 = xs.getD q 0 := by
    intro q h1 h2
    refine ⟨by simp [upd, h1, h2], ?_⟩
    rw [List.getD_eq_getElem?_getD, List.getElem?_set_ne (by omega), List.getElem?_set_ne (by omega), ← List.getD_eq_getElem?_getD]
  have u2 : upd (upd f k false) m true k = false := by simp [upd, hne]
  have u3 : upd (upd f k false) m true m = true := by simp [upd]
  have u4 : ((xs.set k 0).set m (xs.getD k 0)).getD m 0 = xs.getD k 0 := by
    rw [List.getD_eq_getElem?_getD, List.getElem?_set_self (by rw [List.length_set]; omega)]
    rfl
  have hn : n = min k m + (1 + ((max k m - (min k m + 1)) + (1 + (n - (max k m + 1))))) := by omega
  rw [hn, seg_add, seg_add, seg_add, seg_add]
  rw [seg_add f, seg_add f, seg_add f, seg_add f, seg_one, seg_one, seg_one, seg_one]
  simp only [Nat.zero_add]
  rw [show min k m + 1 + (max k m - (min k m + 1)) = max k m by omega]
  rw [seg_congr (min k m) 0 (fun q h1 h2 => u1 q (by omega) (by omega)), seg_congr (n - (max k m + 1)) (max k m + 1) (fun q h1 h2 => u1 q (by omega) (by omega))]
  rw [seg_none (f := f) _ (min k m + 1) (fun q h1 h2 => hfl q h1 h2), seg_none (max k m - (min k m + 1)) (min k m + 1) (fun q h1 h2 => by rw [(u1 q (by omega) (by omega)).1]; exact hfl q h1 h2)]
  by_cases hlt : k < m
  · rw [show min k m = k by omega, show max k m = m by omega, u2, u3, u4, hf, hf2]
    simp
  · rw [show min k m = m by omega, show max k m = k by omega, u2, u3, u4, hf, hf2]
    simp
end Go.Proofs.YtbjkncgpoengaaaDoor.G16
