/- Walks of the rows of bits: the last one that is on. -/
import Derived.Test.YtofkkdjbilklcaaDoorG3
namespace Go.Proofs.YtofkkdjbilklcaaDoor.G4
open Go.RowKit Go.Proofs.YtofkkdjbilklcaaDoorW.PrintWords Go.Proofs.YtofkkdjbilklcaaDoorW.PrintLast Go.Proofs.YtofkkdjbilklcaaDoorW.PrintMore G1 G0 Q1 G2 G3
set_option linter.unusedVariables false
set_option linter.unusedSimpArgs false

def lastF (f : Nat → Bool) : Nat → Int
  | 0 => -1
  | m + 1 => if f m then (m : Int) else lastF f m
theorem last_is {f : Nat → Bool} {t : Nat} (ht : f t = true) : ∀ m, t < m → (∀ j, t < j → j < m → f j = false) → lastF f m = t := by
  intro m
  induction m with
  | zero => intro h; omega
  | succ m ih =>
    intro h1 h2
    simp only [lastF]
    by_cases e : t = m
    · subst e; rw [if_pos ht]
    · rw [if_neg (by rw [h2 m (by omega) (by omega)]; decide), ih (by omega) (fun j a b => h2 j a (by omega))]
theorem last_none {f : Nat → Bool} : ∀ m, (∀ j, j < m → f j = false) → lastF f m = -1 := by
  intro m
  induction m with
  | zero => intro _; rfl
  | succ m ih =>
    intro h
    simp only [lastF]
    rw [if_neg (by rw [h m (by omega)]; decide), ih (fun j a => h j (by omega))]
def prevI (f : Nat → Bool) (n : Nat) (i : Int) : Int := lastF f (min (i + 1) n).toNat
structure PrevW (f : Nat → Bool) (i k v : Nat) : Prop where
  small : v < 18446744073709551616
  behind : ∀ j, 64 * k + 64 ≤ j → j ≤ i → f j = false
  bit : ∀ j, j < 64 → v.testBit j = (decide (64 * k + j ≤ i) && f (64 * k + j))
  high : 64 * k ≤ i
theorem PrevW.found {f : Nat → Bool} {i k v : Nat} (h : PrevW f i k v) (h0 : 0 < v) : lastF f (i + 1) = (k : Int) * 64 + lenN v - 1 ∧ 0 < lenN v ∧ lenN v ≤ 64 := by
  obtain ⟨t1, t2, t3, t4⟩ := len_top v h0 h.small
  have hb := h.bit _ (show lenN v - 1 < 64 by omega)
  rw [t3] at hb
  have hb2 := hb.symm
  rw [Bool.and_eq_true, decide_eq_true_eq] at hb2
  refine ⟨?_, t1, t2⟩
  rw [last_is hb2.2 (i + 1) (by omega) fun j h1 h2 => ?_]
  · omega
  · by_cases hj : 64 * k + 64 ≤ j
    · exact h.behind j hj (by omega)
    · have hb3 := h.bit (j - 64 * k) (by omega)
      rw [t4 _ (by omega), show 64 * k + (j - 64 * k) = j by omega, decide_eq_true (by omega), Bool.true_and] at hb3
      exact hb3.symm
theorem PrevW.none_ {f : Nat → Bool} {i k : Nat} (h : PrevW f i k 0) : ∀ j, 64 * k ≤ j → j ≤ i → f j = false := by
  intro j h1 h2
  by_cases hj : 64 * k + 64 ≤ j
  · exact h.behind j hj h2
  · have hb3 := h.bit (j - 64 * k) (by omega)
    rw [Nat.zero_testBit, show 64 * k + (j - 64 * k) = j by omega, decide_eq_true (by omega), Bool.true_and] at hb3
    exact hb3.symm
theorem high_off (v s : Nat) (hs : s ≤ 64) : v * 2 ^ s % 18446744073709551616 / 2 ^ s = v % 2 ^ (64 - s) := by
  have e : (18446744073709551616 : Nat) = 2 ^ (64 - s) * 2 ^ s := by rw [← Nat.pow_add, show 64 - s + s = 64 by omega]
  rw [e, Nat.mul_mod_mul_right, Nat.mul_div_cancel _ (Nat.two_pow_pos s)]
theorem wu_high (v s : Nat) (hs : s ≤ 64) : IntKind.u64.wrap ((v : Int) * 2 ^ s) / 2 ^ s = ((v % 2 ^ (64 - s) : Nat) : Int) := by
  rw [wu_mul v s hs, ← high_off v s hs]
  simp
theorem prev_start {w : World} {ob wb n : Nat} {f : Nat → Bool} {vs : List Nat} (h : BitsAt w ob wb n f vs) {i : Nat} (hi : i < n) : PrevW f i (i / 64) (vs.getD (i / 64) 0 % 2 ^ (i % 64 + 1)) := by
  have hs := h.small (i / 64)
  have hd := Nat.mod_le (vs.getD (i / 64) 0) (2 ^ (i % 64 + 1))
  refine ⟨by omega, fun j a b => by omega, fun j hj => ?_, by omega⟩
  rw [Nat.testBit_mod_two_pow]
  have hb := h.bit (64 * (i / 64) + j) (by have := h.len; omega)
  rw [show (64 * (i / 64) + j) / 64 = i / 64 by omega, show (64 * (i / 64) + j) % 64 = j by omega] at hb
  rw [hb]
  congr 1
  rw [decide_eq_decide]
  omega
theorem prev_step {w : World} {ob wb n : Nat} {f : Nat → Bool} {vs : List Nat} (h : BitsAt w ob wb n f vs) {i k : Nat} (hi : i < n) (hw : PrevW f i (k + 1) 0) : PrevW f i k (vs.getD k 0) := by
  have hl := hw.high
  refine ⟨h.small _, fun j a b => hw.none_ j (by omega) b, fun j hj => ?_, by omega⟩
  have hb := h.bit (64 * k + j) (by have := h.len; omega)
  rw [show (64 * k + j) / 64 = k by omega, show (64 * k + j) % 64 = j by omega] at hb
  rw [hb, decide_eq_true (by omega), Bool.true_and]
end Go.Proofs.YtofkkdjbilklcaaDoor.G4
