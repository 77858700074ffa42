/- Plain facts: what the printed functions of the layer compute: blocks, sizes, orders, layouts. No program in sight. -/
import Derived.Test.YthhmiieimfdffaaC1
import Derived.Test.YthhmiieimfdffaaQ1
import Derived.Test.YthhmiieimfdffaaWLast
import Derived.Test.YthhmiieimfdffaaWMore
namespace Go.Proofs.Ythhmiieimfdffaa.C2
open Go.RowKit Go.Proofs.YthhmiieimfdffaaW.PrintWords Go.Proofs.YthhmiieimfdffaaW.PrintLast Go.Proofs.YthhmiieimfdffaaW.PrintMore C1 Q1
set_option linter.unusedVariables false

/-- No wrap where the number fits. -/
theorem wr (x : Int) (h : -9223372036854775808 ≤ x ∧ x ≤ 9223372036854775807) : wrap64 x = x := IntWalk.wrap64_in x h
/-- How wide blocks are. -/
def wd (b : Nat) : Nat := 2 ^ b - 1
theorem wd_is {b : Nat} (h1 : 1 ≤ b) (h2 : b ≤ 10) : 1 ≤ wd b ∧ wd b ≤ 1023 ∧ 2 ^ b = wd b + 1 := by
  have : ∀ b, b < 11 → 1 ≤ b → 1 ≤ wd b ∧ wd b ≤ 1023 ∧ 2 ^ b = wd b + 1 := by decide
  exact this b (by omega) h1
theorem wide_f {b : Nat} (h1 : 1 ≤ b) (h2 : b ≤ 10) (l : List Int) : block_Layout_wide.f b l = some (wd b : Int) := by
  have : ∀ b : Nat, b < 11 → 1 ≤ b → (if (0 : Int) ≤ b then some (wrap64 ((shl .i64 1 b) - 1)) else none) = some (wd b : Int) := by decide +kernel
  exact this b (by omega) h1
/-- How many blocks there are. -/
def blk (n w : Nat) : Nat := (n + w - 1) / w
theorem lt_blk {n w i : Nat} (hw : 0 < w) : i < blk n w ↔ i * w < n := by
  unfold blk
  rw [show i < (n + w - 1) / w ↔ i + 1 ≤ (n + w - 1) / w from Iff.rfl, Nat.le_div_iff_mul_le hw, Nat.add_mul]
  omega
theorem blk_le {n w : Nat} (hw : 0 < w) : blk n w ≤ n := by
  refine Nat.le_of_not_lt fun c => ?_
  have := lt_of_in ⟨hw, (lt_blk hw).1 c⟩
  omega
theorem blocks_f {b : Nat} (h1 : 1 ≤ b) (h2 : b ≤ 10) (l : List Int) (hl : l.length ≤ 1000000) : block_Layout_blocks.f b l = some (blk l.length (wd b) : Int) := by
  obtain ⟨w1, w2, _⟩ := wd_is h1 h2
  unfold block_Layout_blocks.f
  rw [wide_f h1 h2, Option.bind_some, Option.bind_some, if_neg (by omega), wr ((l.length : Int) + wd b) (by omega), wr ((l.length : Int) + wd b - 1) (by omega)]
  have e : (l.length : Int) + wd b - 1 = ((l.length + wd b - 1 : Nat) : Int) := by omega
  rw [e, show Int.tdiv ((l.length + wd b - 1 : Nat) : Int) (wd b : Nat) = (((l.length + wd b - 1) / wd b : Nat) : Int) from rfl]
  have := Nat.div_le_self (l.length + wd b - 1) (wd b)
  unfold blk
  generalize (l.length + wd b - 1) / wd b = q at *
  rw [wr _ (by omega)]
theorem shl_f {b i : Nat} (h2 : b ≤ 10) (hi : i ≤ 1000000000000) : shl .i64 (i : Int) (b : Int) = ((i * 2 ^ b : Nat) : Int) := by
  have hp : 2 ^ b ≤ 1024 := by
    have : ∀ b, b < 11 → 2 ^ b ≤ 1024 := by decide
    exact this b (by omega)
  have hm : i * 2 ^ b ≤ 1000000000000 * 1024 := Nat.mul_le_mul hi hp
  unfold shl
  rw [show min (b : Int).toNat IntKind.i64.bits = b by simp [IntKind.bits]; omega, show (2 : Int) ^ b = ((2 ^ b : Nat) : Int) by simp, show (i : Int) * ((2 ^ b : Nat) : Int) = ((i * 2 ^ b : Nat) : Int) by simp]
  generalize i * 2 ^ b = x at *
  simp [IntKind.wrap, IntKind.signed, IntKind.bits]
  omega
theorem child_f {b : Nat} (h1 : 1 ≤ b) (h2 : b ≤ 10) (l : List Int) {i : Nat} (hi : i ≤ 1000000000000) : block_Layout_child.f b l i = some (kid (wd b) i : Int) := by
  obtain ⟨w1, w2, w3⟩ := wd_is h1 h2
  have hm : i * (wd b + 1) ≤ 1000000000000 * 1024 := Nat.mul_le_mul hi (by omega)
  unfold block_Layout_child.f kid
  rw [if_pos (by omega), shl_f h2 hi, w3, wr _ (by omega)]
  rfl
theorem below_f {b : Nat} (h1 : 1 ≤ b) (h2 : b ≤ 10) (l : List Int) (hl : l.length ≤ 1000000) : ∀ (d k a m c : Nat), l.length - a ≤ d → 2 * d + 2 < k → m ≤ a * wd b → c + sumC l.length (wd b) a m ≤ 1000000000000 →
    block_Layout_below.l0 k a ((a + m : Nat) : Int) c b l = some ((c + sumC l.length (wd b) a m : Nat) : Int) := by
  obtain ⟨w1, w2, w3⟩ := wd_is h1 h2
  have hw : 0 < wd b := w1
  have stop : ∀ (k a m c : Nat), 2 < k → ¬ (a * wd b < l.length ∧ 0 < m) → block_Layout_below.l0 k a ((a + m : Nat) : Int) c b l = some ((c + sumC l.length (wd b) a m : Nat) : Int) := by
    intro k a m c hk hn
    obtain ⟨k, rfl⟩ : ∃ j, k = j + 2 := ⟨k - 2, by omega⟩
    rw [block_Layout_below.l0, blocks_f h1 h2 l hl, Option.bind_some]
    by_cases ha : a * wd b < l.length
    · have hb := (lt_blk hw).2 ha
      obtain rfl : m = 0 := by
        refine Classical.byContradiction fun hc => hn ⟨ha, by omega⟩
      rw [if_pos (by omega), decide_eq_false (by omega), block_Layout_below.j1, if_neg (by decide)]
      simp [sumC]
    · have hb : ¬ a < blk l.length (wd b) := fun hc => ha ((lt_blk hw).1 hc)
      rw [if_neg (by omega), block_Layout_below.j1, if_neg (by decide), sum_out (by omega)]
      simp
  intro d
  induction d with
  | zero =>
    intro k a m c hd hk hm hc
    refine stop k a m c (by omega) (fun hh => ?_)
    have := lt_of_in ⟨hw, hh.1⟩
    omega
  | succ d ih =>
    intro k a m c hd hk hm hc
    by_cases hh : a * wd b < l.length ∧ 0 < m
    · obtain ⟨k, rfl⟩ : ∃ j, k = j + 2 := ⟨k - 2, by omega⟩
      have hb := (lt_blk hw).2 hh.1
      have ha := lt_of_in ⟨hw, hh.1⟩
      have hg := kid_gt (wd b) a
      have hs := sum_level (n := l.length) hw a m
      have hm2 : m ≤ 1000000000 := by
        have : a * wd b ≤ 1000000 := by omega
        omega
      have hto : (a + m) * wd b ≤ 2000000000 * 1023 := Nat.mul_le_mul (by omega) w2
      have hle : a * wd b ≤ (a + m) * wd b := Nat.mul_le_mul_right _ (by omega)
      rw [block_Layout_below.l0, blocks_f h1 h2 l hl, Option.bind_some, if_pos (by omega), decide_eq_true (by omega), block_Layout_below.j1, if_pos rfl, wide_f h1 h2, Option.bind_some, Option.bind_some, child_f h1 h2 l (by omega), Option.bind_some, child_f h1 h2 l (by omega), Option.bind_some]
      rw [show ((a + m : Nat) : Int) * (wd b : Int) = (((a + m) * wd b : Nat) : Int) by simp, show (a : Int) * (wd b : Int) = ((a * wd b : Nat) : Int) by simp, wr (((a + m) * wd b : Nat) : Int) (by omega), wr ((a * wd b : Nat) : Int) (by omega)]
      have e1 : mn (((a + m) * wd b : Nat) : Int) (l.length : Int) = ((min ((a + m) * wd b) l.length : Nat) : Int) := by unfold mn; split <;> omega
      rw [e1, wr (((min ((a + m) * wd b) l.length : Nat) : Int) - ((a * wd b : Nat) : Int)) (by omega), wr ((c : Int) + (((min ((a + m) * wd b) l.length : Nat) : Int) - ((a * wd b : Nat) : Int))) (by omega)]
      have e2 : (c : Int) + (((min ((a + m) * wd b) l.length : Nat) : Int) - ((a * wd b : Nat) : Int)) = ((c + (min ((a + m) * wd b) l.length - a * wd b) : Nat) : Int) := by omega
      rw [e2, kid_add]
      have h3 : m * (wd b + 1) ≤ kid (wd b) a * wd b := by
        unfold kid
        rw [Nat.add_mul, Nat.mul_assoc, Nat.mul_comm (wd b + 1) (wd b), ← Nat.mul_assoc]
        have := Nat.mul_le_mul_right (wd b + 1) hm
        omega
      rw [show min (a * wd b) l.length = a * wd b by omega] at hs
      rw [ih k (kid (wd b) a) (m * (wd b + 1)) _ (by omega) (by omega) h3 (by omega), hs]
      congr 2
      omega
    · exact stop k a m c (by omega) hh
theorem belowAll_f {b : Nat} (h1 : 1 ≤ b) (h2 : b ≤ 10) (l : List Int) (hl : l.length ≤ 1000000) (a m : Nat) (hm : m ≤ a * wd b) (hs : sumC l.length (wd b) a m ≤ l.length) :
    block_Layout_below.f (2 * l.length + 3) b l a ((a + m : Nat) : Int) = some (sumC l.length (wd b) a m : Int) := by
  have h := below_f h1 h2 l hl l.length (2 * l.length + 3) a m 0 (by omega) (by omega) hm (by omega)
  rw [Nat.zero_add] at h
  exact h
end Go.Proofs.Ythhmiieimfdffaa.C2
