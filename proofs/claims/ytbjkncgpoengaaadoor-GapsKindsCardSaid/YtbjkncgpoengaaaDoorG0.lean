/- Contracts of math/bits on words: OnesCount64, Len64, TrailingZeros64, told by what they mean. -/
import Derived.Test.YtbjkncgpoengaaaDoorG1
import Derived.Test.YtbjkncgpoengaaaDoorQ1
import Derived.Lib.Hide
import Derived.Laws.Bits64b
import Derived.Laws.Bits128
namespace Go.Proofs.YtbjkncgpoengaaaDoor.G0
open Go.RowKit Go.Proofs.YtbjkncgpoengaaaDoorW.PrintWords Go.Proofs.YtbjkncgpoengaaaDoorW.PrintLast Go.Proofs.YtbjkncgpoengaaaDoorW.PrintMore G1 Q1
set_option linter.unusedVariables false
set_option linter.unusedSimpArgs false

theorem wr (x : Int) (h : -9223372036854775808 ≤ x ∧ x ≤ 9223372036854775807) : wrap64 x = x := IntWalk.wrap64_in x h
theorem wu (x : Nat) (h : x < 18446744073709551616) : IntKind.u64.wrap (x : Int) = (x : Int) := by
  simp [IntKind.wrap, IntKind.signed, IntKind.bits]
  omega
theorem an1 (x : Nat) (h : x < 18446744073709551616) : Go.bits .and .u64 (x : Int) 6148914691236517205 = ((x &&& 6148914691236517205 : Nat) : Int) := bits_and_u64_nat x 6148914691236517205 h (by omega)
theorem an2 (x : Nat) (h : x < 18446744073709551616) : Go.bits .and .u64 (x : Int) 3689348814741910323 = ((x &&& 3689348814741910323 : Nat) : Int) := bits_and_u64_nat x 3689348814741910323 h (by omega)
theorem an3 (x : Nat) (h : x < 18446744073709551616) : Go.bits .and .u64 (x : Int) 1085102592571150095 = ((x &&& 1085102592571150095 : Nat) : Int) := bits_and_u64_nat x 1085102592571150095 h (by omega)
theorem dv (x d : Nat) : (x : Int) / (d : Int) = ((x / d : Nat) : Int) := rfl
theorem ones_f (v : Nat) (h : v < 18446744073709551616) : bits_OnesCount64.f v = some (pc v 64 : Int) := by
  rw [← ones_pc v h]
  have a1 : (v / 2) &&& 6148914691236517205 ≤ 6148914691236517205 := Nat.and_le_right
  have a2 : v &&& 6148914691236517205 ≤ 6148914691236517205 := Nat.and_le_right
  unfold bits_OnesCount64.f ones
  simp only
  rw [show (v : Int) / 2 = ((v / 2 : Nat) : Int) from rfl, an1 (v / 2) (by omega), an1 v h, ← Int.natCast_add, wu _ (by omega)]
  have a3 : ((v / 2) &&& 6148914691236517205) + (v &&& 6148914691236517205) ≤ 12297829382473034410 := by omega
  generalize ((v / 2) &&& 6148914691236517205) + (v &&& 6148914691236517205) = a at *
  have b1 : (a / 4) &&& 3689348814741910323 ≤ 3689348814741910323 := Nat.and_le_right
  have b2 : a &&& 3689348814741910323 ≤ 3689348814741910323 := Nat.and_le_right
  rw [show (a : Int) / 4 = ((a / 4 : Nat) : Int) from rfl, an2 (a / 4) (by omega), an2 a (by omega), ← Int.natCast_add, wu _ (by omega)]
  have b3 : ((a / 4) &&& 3689348814741910323) + (a &&& 3689348814741910323) ≤ 7378697629483820646 := by omega
  generalize ((a / 4) &&& 3689348814741910323) + (a &&& 3689348814741910323) = b at *
  rw [show (b : Int) / 16 = ((b / 16 : Nat) : Int) from rfl, ← Int.natCast_add, wu _ (by omega), an3 (b / 16 + b) (by omega)]
  have c1 : (b / 16 + b) &&& 1085102592571150095 ≤ 1085102592571150095 := Nat.and_le_right
  generalize (b / 16 + b) &&& 1085102592571150095 = c at *
  rw [show (c : Int) / 256 = ((c / 256 : Nat) : Int) from rfl, ← Int.natCast_add, wu _ (by omega)]
  generalize hd : c + c / 256 = d at *
  have d1 : d ≤ 1100000000000000000 := by omega
  rw [show (d : Int) / 65536 = ((d / 65536 : Nat) : Int) from rfl, ← Int.natCast_add, wu _ (by omega)]
  generalize hf : d + d / 65536 = f at *
  have f1 : f ≤ 1200000000000000000 := by omega
  rw [show (f : Int) / 4294967296 = ((f / 4294967296 : Nat) : Int) from rfl, ← Int.natCast_add, wu _ (by omega), wr _ (by omega), i64_and127]
  rfl
theorem ones_any (v : Nat) (h : v < 18446744073709551616) (w : World) : Calls Tryd.prog 82 #[.int .u64 v] w fun e w' => e = .returned (.int .i64 (pc v 64)) ∧ Drawn0 w w' := bits_OnesCount64.calls v _ w (ones_f v h)

/-! TrailingZeros64. -/
def tab64 : List Int := [0, 1, 56, 2, 57, 49, 28, 3, 61, 58, 42, 50, 38, 29, 17, 4, 62, 47, 59, 36, 45, 43, 51, 22, 53, 39, 33, 30, 24, 18, 12, 5, 63, 55, 48, 27, 60, 41, 37, 16, 46, 35, 44, 21, 52, 32, 23, 11, 54, 26, 40, 15, 34, 20, 31, 10, 25, 14, 19, 9, 13, 8, 7, 6]
/-- The table lies in its variable. -/
abbrev Tb (w : World) : Prop := Kd.C (Kd.int .u8) w (some ⟨0, 0, none⟩) 64 tab64
theorem tz_tab : ∀ t, t < 64 → ∃ i, i < 64 ∧ IntKind.u64.wrap (((2 ^ t : Nat) : Int) * 285870213051353865) / 288230376151711744 = (i : Nat) ∧ rd tab64 i = (t : Nat) := by
  have h : ∀ t, t < 64 → (IntKind.u64.wrap (((2 ^ t : Nat) : Int) * 285870213051353865) / 288230376151711744).toNat < 64 ∧ 0 ≤ IntKind.u64.wrap (((2 ^ t : Nat) : Int) * 285870213051353865) / 288230376151711744 ∧ rd tab64 (IntKind.u64.wrap (((2 ^ t : Nat) : Int) * 285870213051353865) / 288230376151711744) = (t : Nat) := by decide +kernel
  intro t ht
  obtain ⟨h1, h2, h3⟩ := h t ht
  exact ⟨_, h1, by omega, by rw [Int.toNat_of_nonneg h2]; exact h3⟩
theorem tz_walk (x : Int) (j : Int) (hx0 : (x == 0) = false) (i : Nat) (hi : i < 64) (hj : IntKind.u64.wrap ((Go.bits .and .u64 x (IntKind.u64.wrap (-x))) * 285870213051353865) / 288230376151711744 = i) (ht : rd tab64 i = j) (hj0 : 0 ≤ j) (hj1 : j < 64) (w : World) (hT : Tb w) :
    Calls Tryd.prog 79 #[.int .u64 x] w fun e w' => e = .returned (.int .i64 j) ∧ Drawn0 w w' := by
  obtain ⟨ad, e, hx⟩ := Kd.at_int hT (i : Int) (by omega) (by omega)
  cases e
  rw [Int.toNat_natCast, ht] at hx
  have hx' : w.cell? ⟨0, i, none⟩ = some (.int .u8 j) := by
    have e2 : (⟨0, 0, none⟩ : Addr).add i = ⟨0, i, none⟩ := by unfold Addr.add; split <;> simp_all
    rw [← e2]
    exact hx
  clear hx
  have hw : IntKind.i64.wrap j = j := by simp [IntKind.wrap, IntKind.signed, IntKind.bits]; omega
  go_enter Tryd.func79, Tryd.ntmps79
  go_wp2
  go_ret
  exact ⟨by first | rfl | simp [hw], by repeat (first | exact Drawn0.refl _ | apply Drawn0.step)⟩
theorem tz_any (v : Nat) (h0 : 0 < v) (h : v < 18446744073709551616) (w : World) (hT : Tb w) : Calls Tryd.prog 79 #[.int .u64 v] w fun e w' => e = .returned (.int .i64 (tzN v)) ∧ Drawn0 w w' := by
  obtain ⟨t1, t2, t3, t4⟩ := tz_is v h0 h
  obtain ⟨i, hi, hj, ht⟩ := tz_tab (tzN v) t1
  refine tz_walk v (tzN v) (beq_eq_false_iff_ne.2 (by omega)) i hi ?_ ht (by omega) (by omega) w hT
  have e : IntKind.u64.wrap (-(v : Int)) = ((18446744073709551616 - v : Nat) : Int) := by
    simp [IntKind.wrap, IntKind.signed, IntKind.bits]
    omega
  rw [e, bits_and_u64_nat v (18446744073709551616 - v) h (by omega), t4]
  exact hj

/-! Len64. -/
/-- How many bits a number has. -/
def lenN (v : Nat) : Nat := if v = 0 then 0 else Nat.log2 v + 1
theorem len_shift (v i : Nat) (h : 2 ^ i ≤ v) : lenN v = i + lenN (v / 2 ^ i) := by
  have hp := Nat.two_pow_pos i
  have h0 : v ≠ 0 := by omega
  have h1 : v / 2 ^ i ≠ 0 := by
    have := Nat.div_pos h hp
    omega
  unfold lenN
  rw [if_neg h0, if_neg h1]
  have e : Nat.log2 v = i + Nat.log2 (v / 2 ^ i) := by
    rw [Nat.log2_eq_iff h0]
    have a := (Nat.log2_eq_iff h1 (k := Nat.log2 (v / 2 ^ i))).1 rfl
    generalize Nat.log2 (v / 2 ^ i) = k at a
    rw [Nat.le_div_iff_mul_le hp, Nat.div_lt_iff_lt_mul hp] at a
    rw [show 2 ^ (i + k) = 2 ^ k * 2 ^ i by rw [Nat.pow_add, Nat.mul_comm], show 2 ^ (i + k + 1) = 2 ^ (k + 1) * 2 ^ i by rw [Nat.add_assoc, Nat.pow_add, Nat.mul_comm]]
    exact a
  omega
theorem len8_is : ∀ v, v < 256 → bt len8 (v : Nat) = (lenN v : Nat) := by decide +kernel
theorem len64_f (v : Nat) (h : v < 18446744073709551616) : bits_Len64.f 1 v = some (lenN v : Int) := by
  have top : ∀ (x n : Nat), x < 256 → n ≤ 56 → some (wrap64 (((n : Nat) : Int) + wrap64 (bt len8 ((x : Nat) : Int)))) = some (((n + lenN x : Nat)) : Int) := by
    intro x n hx hn
    have hl : lenN x ≤ 8 := by
      have : ∀ x, x < 256 → lenN x ≤ 8 := by decide +kernel
      exact this x hx
    rw [len8_is x hx, wr ((lenN x : Nat) : Int) (by omega), wr _ (by omega)]
    rfl
  have j : ∀ (x n : Nat), x < 4294967296 → n ≤ 32 → bits_Len64.j0 1 x n = some (((n + lenN x : Nat)) : Int) := by
    intro x n hx hn
    rw [bits_Len64.j0]
    by_cases h1 : x ≥ 65536
    · by_cases h2 : x / 65536 ≥ 256
      · rw [if_pos (by omega), if_pos (by omega), if_pos (by omega), if_pos (by omega), wr ((n : Int) + 16) (by omega), wr ((n : Int) + 16 + 8) (by omega), show (x : Int) / 65536 / 256 % 256 = ((x / 65536 / 256 : Nat) : Int) by omega, show (n : Int) + 16 + 8 = ((n + 16 + 8 : Nat) : Int) by omega, top _ _ (by omega) (by omega)]
        have e1 := len_shift x 16 (by omega)
        have e2 := len_shift (x / 65536) 8 (by omega)
        rw [show 2 ^ 16 = 65536 from rfl] at e1
        rw [show 2 ^ 8 = 256 from rfl] at e2
        congr 2
        omega
      · rw [if_pos (by omega), if_neg (by omega), if_pos (by omega), if_pos (by omega), wr ((n : Int) + 16) (by omega), show (x : Int) / 65536 % 256 = ((x / 65536 : Nat) : Int) by omega, show (n : Int) + 16 = ((n + 16 : Nat) : Int) by omega, top _ _ (by omega) (by omega)]
        have e1 := len_shift x 16 (by omega)
        rw [show 2 ^ 16 = 65536 from rfl] at e1
        congr 2
        omega
    · by_cases h2 : x ≥ 256
      · rw [if_neg (by omega), if_pos (by omega), if_pos (by omega), if_pos (by omega), wr ((n : Int) + 8) (by omega), show (x : Int) / 256 % 256 = ((x / 256 : Nat) : Int) by omega, show (n : Int) + 8 = ((n + 8 : Nat) : Int) by omega, top _ _ (by omega) (by omega)]
        have e1 := len_shift x 8 (by omega)
        rw [show 2 ^ 8 = 256 from rfl] at e1
        congr 2
        omega
      · rw [if_neg (by omega), if_neg (by omega), if_pos (by omega), if_pos (by omega), show (x : Int) % 256 = ((x : Nat) : Int) by omega, top _ _ (by omega) (by omega)]
  unfold bits_Len64.f
  by_cases h1 : v ≥ 4294967296
  · rw [if_pos (by omega), show (v : Int) / 4294967296 = ((v / 4294967296 : Nat) : Int) from rfl]
    have := j (v / 4294967296) 32 (by omega) (by omega)
    have e1 := len_shift v 32 (by omega)
    rw [show 2 ^ 32 = 4294967296 from rfl] at e1
    rw [e1]
    exact this
  · rw [if_neg (by omega)]
    have := j v 0 (by omega) (by omega)
    rw [Nat.zero_add] at this
    exact this
theorem len64_any (v : Nat) (h : v < 18446744073709551616) (w : World) : Calls Tryd.prog 80 #[.int .u64 v] w fun e w' => e = .returned (.int .i64 (lenN v)) ∧ Drawn0 w w' := bits_Len64.calls 1 v _ w (len64_f v h)
/-- The last bit that is on is just below. -/
theorem len_top (v : Nat) (h0 : 0 < v) (h : v < 18446744073709551616) : 0 < lenN v ∧ lenN v ≤ 64 ∧ v.testBit (lenN v - 1) = true ∧ ∀ j, lenN v ≤ j → v.testBit j = false := by
  have hn : v ≠ 0 := by omega
  have a := (Nat.log2_eq_iff hn (k := Nat.log2 v)).1 rfl
  have e : lenN v = Nat.log2 v + 1 := by unfold lenN; rw [if_neg hn]
  rw [e]
  generalize Nat.log2 v = k at *
  have hk : k < 64 := by
    refine Nat.lt_of_not_le fun hc => ?_
    have : 2 ^ 64 ≤ 2 ^ k := Nat.pow_le_pow_right (by omega) hc
    omega
  refine ⟨by omega, by omega, ?_, fun j hj => ?_⟩
  · rw [Nat.add_sub_cancel, Nat.testBit_eq_decide_div_mod_eq]
    have h1 : v / 2 ^ k = 1 := by
      have hp := Nat.two_pow_pos k
      rw [Nat.pow_succ] at a
      refine Nat.le_antisymm ?_ (Nat.div_pos a.1 hp)
      have := Nat.div_lt_of_lt_mul a.2
      omega
    rw [h1]
    rfl
  · exact Nat.testBit_lt_two_pow (Nat.lt_of_lt_of_le a.2 (Nat.pow_le_pow_right (by omega) hj))
end Go.Proofs.YtbjkncgpoengaaaDoor.G0
