/- Plain facts: what the reference of the layer computes. No program in sight. -/
import Derived.Test.YthhmiieimfdffaaC3
namespace Go.Proofs.Ythhmiieimfdffaa.C4
open Go.RowKit Go.Proofs.YthhmiieimfdffaaW.PrintWords C1 C2 C3 Q1
set_option linter.unusedVariables false

theorem refWide_f {b : Nat} (h1 : 1 ≤ b) (h2 : b ≤ 10) {k : Nat} (hk : 11 < k) : punnetref19_Wide.f k b = some (wd b : Int) := by
  have h : ∀ b : Nat, b < 11 → 1 ≤ b → punnetref19_Wide.f 12 b = some (wd b : Int) := by decide +kernel
  exact at_rounds (fun k => punnetref19_Wide.mono b k) (show 12 ≤ k by omega) (h b (by omega) h1)
theorem blk_step {n w : Nat} (hw : 0 < w) (h : 0 < n) : blk n w = blk (n - w) w + 1 := by
  unfold blk
  by_cases h2 : w ≤ n
  · rw [show n + w - 1 = (n - w + w - 1) + w by omega, Nat.add_div_right _ hw]
  · rw [show n - w = 0 by omega, Nat.zero_add, Nat.div_eq_of_lt (show w - 1 < w by omega), show n + w - 1 = (n - 1) + w by omega, Nat.add_div_right _ hw, Nat.div_eq_of_lt (by omega)]
theorem refBlocks_l {b : Nat} (h1 : 1 ≤ b) (h2 : b ≤ 10) : ∀ (d k n c : Nat), n ≤ d → d + 12 < k → c + d ≤ 1000000000 → punnetref19_Blocks.l0 k n b c = some ((c + blk n (wd b) : Nat) : Int) := by
  obtain ⟨w1, w2, w3⟩ := wd_is h1 h2
  have stop : ∀ (k : Nat) (n : Int) (c : Nat), 0 < k → n ≤ 0 → punnetref19_Blocks.l0 k n b c = some ((c : Nat) : Int) := by
    intro k n c hk hn
    obtain ⟨k, rfl⟩ : ∃ m, k = m + 1 := ⟨k - 1, by omega⟩
    simp only [punnetref19_Blocks.l0]
    rw [if_neg (by omega)]
  have z : blk 0 (wd b) = 0 := by unfold blk; rw [Nat.zero_add, Nat.div_eq_of_lt (by omega)]
  intro d
  induction d with
  | zero =>
    intro k n c hd hk hc
    obtain rfl : n = 0 := by omega
    rw [z]
    exact stop k 0 c (by omega) (by omega)
  | succ d ih =>
    intro k n c hd hk hc
    by_cases hn : n = 0
    · subst hn
      rw [z]
      exact stop k 0 c (by omega) (by omega)
    · obtain ⟨k, rfl⟩ : ∃ m, k = m + 1 := ⟨k - 1, by omega⟩
      simp only [punnetref19_Blocks.l0]
      rw [if_pos (by omega), refWide_f h1 h2 (by omega), Option.bind_some, wr _ (by omega), wr ((c : Int) + 1) (by omega), blk_step w1 (by omega), show (c : Int) + 1 = ((c + 1 : Nat) : Int) by omega]
      by_cases h : wd b ≤ n
      · rw [show (n : Int) - (wd b : Int) = ((n - wd b : Nat) : Int) by omega, ih k _ (c + 1) (by omega) (by omega) (by omega)]
        congr 2
        omega
      · rw [stop k _ (c + 1) (by omega) (by omega), show n - wd b = 0 by omega, z]
theorem refBlocks_f {b : Nat} (h1 : 1 ≤ b) (h2 : b ≤ 10) {k n : Nat} (hn : n ≤ 1000000) (hk : n + 12 < k) : punnetref19_Blocks.f k n b = some (blk n (wd b) : Int) := by
  have h := refBlocks_l h1 h2 n k n 0 (Nat.le_refl _) hk (by omega)
  rw [Nat.zero_add] at h
  exact h
theorem refSize_f {b : Nat} (h1 : 1 ≤ b) (h2 : b ≤ 10) {k n i : Nat} (hn : n ≤ 1000000) (hk : 11 < k) (hi : i * wd b < n) : punnetref19_Size.f k n b i = some (sz n (wd b) i : Int) := by
  obtain ⟨w1, w2, w3⟩ := wd_is h1 h2
  unfold punnetref19_Size.f
  rw [refWide_f h1 h2 hk, Option.bind_some, Option.bind_some, Option.bind_some, show (i : Int) * (wd b : Int) = ((i * wd b : Nat) : Int) by simp, wr ((i * wd b : Nat) : Int) (by omega), wr ((n : Int) - ((i * wd b : Nat) : Int)) (by omega)]
  unfold sz
  by_cases h : n - i * wd b > wd b
  · rw [if_pos (by omega), show min (wd b) (n - i * wd b) = wd b by omega]
  · rw [if_neg (by omega), show min (wd b) (n - i * wd b) = n - i * wd b by omega]
    congr 1
    omega
/-- Places as whole numbers. -/
def nat (l : List Nat) : List Int := l.map Int.ofNat
theorem nat_length (l : List Nat) : (nat l).length = l.length := by simp [nat]
theorem nat_append (l m : List Nat) : nat (l ++ m) = nat l ++ nat m := by simp [nat]
theorem part_le {n w i m : Nat} (hw : 0 < w) (h : i * w < n) (hm : m ≤ sz n w i) : (C1.part n w i m).length ≤ n := by
  have h1 := part_in ⟨hw, h⟩
  have h2 := cnt_le hw (n := n) i
  have h3 := sumC_le n w (kid w i) hm
  rw [part_length]
  omega
set_option maxRecDepth 10000 in
theorem refOrder_f {b : Nat} (h1 : 1 ≤ b) (h2 : b ≤ 10) {n : Nat} (hn : n ≤ 1000000) : ∀ (d k i : Nat), n - i ≤ d → d * 1030 + n + 20 < k → i ≤ 10000000000 → punnetref19_Order.f k n b i = some (nat (ord n (wd b) i)) := by
  obtain ⟨w1, w2, w3⟩ := wd_is h1 h2
  have stop : ∀ (k i : Nat), n + 20 < k → ¬ i * wd b < n → punnetref19_Order.f k n b i = some (nat (ord n (wd b) i)) := by
    intro k i hk hi
    obtain ⟨k, rfl⟩ : ∃ j, k = j + 1 := ⟨k - 1, by omega⟩
    have hb : ¬ i < blk n (wd b) := fun hc => hi ((lt_blk w1).1 hc)
    simp only [punnetref19_Order.f]
    rw [refBlocks_f h1 h2 hn (by omega), Option.bind_some, if_pos (by omega), ord_out hi]
    rfl
  intro d
  induction d with
  | zero =>
    intro k i hd hk hi
    refine stop k i (by omega) fun hc => ?_
    have := lt_of_in ⟨w1, hc⟩
    omega
  | succ d ih =>
    intro k i hd hk hi
    by_cases h : i * wd b < n
    · have hlt := lt_of_in ⟨w1, h⟩
      have hg := kid_gt (wd b) i
      have hb := (lt_blk w1).2 h
      have hz : sz n (wd b) i ≤ wd b := by unfold sz; omega
      have hkid : kid (wd b) i ≤ 1025000000 := by
        unfold kid
        have : i * (wd b + 1) ≤ 1000000 * 1024 := Nat.mul_le_mul (by omega) (by omega)
        omega
      have inner : ∀ (e k m : Nat), m + e = sz n (wd b) i → d * 1030 + n + 20 + e + 1 < k →
          punnetref19_Order.l0 k n b i (nat (C1.part n (wd b) i m)) (sz n (wd b) i : Nat) (kid (wd b) i : Nat) m = some (nat (ord n (wd b) i)) := by
        intro e
        induction e with
        | zero =>
          intro k m hm hk
          obtain ⟨k, rfl⟩ : ∃ j, k = j + 1 := ⟨k - 1, by omega⟩
          have hl := part_le w1 h (show m ≤ sz n (wd b) i by omega)
          have hl2 := cnt_le w1 (n := n) (kid (wd b) i + sz n (wd b) i)
          simp only [punnetref19_Order.l0]
          rw [if_neg (by omega), wr ((kid (wd b) i : Int) + (sz n (wd b) i : Int)) (by omega), show (kid (wd b) i : Int) + (sz n (wd b) i : Int) = ((kid (wd b) i + sz n (wd b) i : Nat) : Int) by omega, ih k (kid (wd b) i + sz n (wd b) i) (by omega) (by omega) (by omega), Option.bind_some, if_pos (by rw [nat_length, nat_length]; unfold cnt at hl2; omega), ord_in ⟨w1, h⟩, nat_append, show m = sz n (wd b) i by omega]
        | succ e ihe =>
          intro k m hm hk
          obtain ⟨k, rfl⟩ : ∃ j, k = j + 1 := ⟨k - 1, by omega⟩
          have hl := part_le w1 h (show m + 1 ≤ sz n (wd b) i by omega)
          rw [part_succ, List.length_append, List.length_append] at hl
          simp only [punnetref19_Order.l0]
          rw [if_pos (by omega), wr ((kid (wd b) i : Int) + (m : Int)) (by omega), show (kid (wd b) i : Int) + (m : Int) = ((kid (wd b) i + m : Nat) : Int) by omega, ih k (kid (wd b) i + m) (by omega) (by omega) (by omega), Option.bind_some, if_pos (by rw [nat_length, nat_length]; omega)]
          rw [Option.bind_some, refWide_f h1 h2 (by omega), Option.bind_some, if_pos (by rw [List.length_append, nat_length, nat_length]; omega)]
          rw [show (i : Int) * (wd b : Int) = ((i * wd b : Nat) : Int) by simp, wr ((i * wd b : Nat) : Int) (by omega), wr (((i * wd b : Nat) : Int) + m) (by omega), wr ((m : Int) + 1) (by omega), show (m : Int) + 1 = ((m + 1 : Nat) : Int) by omega]
          have e1 : nat (C1.part n (wd b) i m) ++ nat (ord n (wd b) (kid (wd b) i + m)) ++ [((i * wd b : Nat) : Int) + (m : Int)] = nat (C1.part n (wd b) i (m + 1)) := by
            rw [part_succ, nat_append, nat_append, List.append_assoc]
            rfl
          rw [e1]
          exact ihe k (m + 1) (by omega) (by omega)
      obtain ⟨k, rfl⟩ : ∃ j, k = j + 1 := ⟨k - 1, by omega⟩
      simp only [punnetref19_Order.f]
      rw [refBlocks_f h1 h2 hn (by omega), Option.bind_some, if_neg (by omega), refSize_f h1 h2 hn (by omega) h, Option.bind_some, refWide_f h1 h2 (by omega), Option.bind_some]
      have e2 : wrap64 (wrap64 ((i : Int) * wrap64 ((wd b : Int) + 1)) + 1) = (kid (wd b) i : Int) := by
        have hm : (i : Int) * ((wd b : Int) + 1) = ((i * (wd b + 1) : Nat) : Int) := by simp
        have hq : i * (wd b + 1) ≤ 1000000 * 1024 := Nat.mul_le_mul (by omega) (by omega)
        rw [wr ((wd b : Int) + 1) (by omega), hm, wr ((i * (wd b + 1) : Nat) : Int) (by omega), wr _ (by omega)]
        unfold kid
        rfl
      rw [e2]
      exact inner (sz n (wd b) i) k 0 (by omega) (by omega)
    · exact stop k i (by omega) h
theorem rdnat (l : List Nat) (i : Nat) (h : i < l.length) : rd (nat l) (i : Int) = ((l[i] : Nat) : Int) := by
  unfold rd nat
  simp [List.getD_eq_getElem?_getD, h]
theorem refSorted_f {b : Nat} (h1 : 1 ≤ b) (h2 : b ≤ 10) (l : List Int) (hl : l.length ≤ 1000000) : ∃ k, punnetref19_Sorted.f k l b = some (sortedOf l (wd b)) := by
  obtain ⟨w1, w2, w3⟩ := wd_is h1 h2
  have hz := length_zero (n := l.length) w1
  have go : ∀ (d i k : Nat), i + d = l.length → d < k → punnetref19_Sorted.l0 k l ((ord l.length (wd b) 0).take i |>.map fun p => l.getD p 0) (nat (ord l.length (wd b) 0)) i = some (sortedOf l (wd b)) := by
    intro d
    induction d with
    | zero =>
      intro i k hd hk
      obtain ⟨k, rfl⟩ : ∃ j, k = j + 1 := ⟨k - 1, by omega⟩
      simp only [punnetref19_Sorted.l0]
      rw [if_neg (by rw [nat_length]; omega), List.take_of_length_le (by omega)]
      rfl
    | succ d ih =>
      intro i k hd hk
      obtain ⟨k, rfl⟩ : ∃ j, k = j + 1 := ⟨k - 1, by omega⟩
      simp only [punnetref19_Sorted.l0]
      have hi : i < (ord l.length (wd b) 0).length := by omega
      have hlt := ((mem_ord w1).1 (List.getElem_mem hi)).1
      have h := ih (i + 1) k (by omega) (by omega)
      rw [List.take_succ_eq_append_getElem hi, List.map_append] at h
      rw [if_pos (by rw [nat_length]; omega), if_pos (by omega), rdnat _ _ hi, if_pos (by omega), if_pos (by omega), if_pos (by rw [List.length_map, List.length_take]; omega), wr _ (by omega), rd_nat]
      exact h
  refine ⟨l.length * 1030 + l.length + 21, ?_⟩
  unfold punnetref19_Sorted.f
  rw [show (0 : Int) = ((0 : Nat) : Int) from rfl, refOrder_f h1 h2 hl l.length _ 0 (by omega) (by omega) (by omega)]
  exact go l.length 0 _ (by omega) (by omega)
theorem refOf_f {b : Nat} (h1 : 1 ≤ b) (h2 : b ≤ 10) (keys : List Int) (hl : keys.length ≤ 1000000) : ∃ k, punnetref19_Of.f k keys b = some (layOf keys (wd b)) := by
  obtain ⟨w1, w2, w3⟩ := wd_is h1 h2
  have hz := length_zero (n := keys.length) w1
  have go : ∀ (d i k : Nat), i + d = keys.length → d < k → punnetref19_Of.l0 k keys (fill keys ((ord keys.length (wd b) 0).take i) 0 (List.replicate keys.length 0)) (nat (ord keys.length (wd b) 0)) i = some (layOf keys (wd b)) := by
    intro d
    induction d with
    | zero =>
      intro i k hd hk
      obtain ⟨k, rfl⟩ : ∃ j, k = j + 1 := ⟨k - 1, by omega⟩
      simp only [punnetref19_Of.l0]
      rw [if_neg (by rw [nat_length]; omega), List.take_of_length_le (by omega)]
      rfl
    | succ d ih =>
      intro i k hd hk
      obtain ⟨k, rfl⟩ : ∃ j, k = j + 1 := ⟨k - 1, by omega⟩
      simp only [punnetref19_Of.l0]
      have hi : i < (ord keys.length (wd b) 0).length := by omega
      have hlt := ((mem_ord w1).1 (List.getElem_mem hi)).1
      have h := ih (i + 1) k (by omega) (by omega)
      rw [List.take_succ_eq_append_getElem hi, fill_snoc, List.length_take] at h
      rw [if_pos (by rw [nat_length]; omega), if_pos (by omega), if_pos (by omega), rdnat _ _ hi, if_pos (by omega), if_pos (by rw [fill_length]; simp; omega), wr _ (by omega), rd_nat, Int.toNat_natCast]
      rw [show 0 + min i (ord keys.length (wd b) 0).length = i by omega] at h
      exact h
  refine ⟨keys.length * 1030 + keys.length + 21, ?_⟩
  unfold punnetref19_Of.f
  rw [if_pos (by omega), if_pos (by omega), show (0 : Int) = ((0 : Nat) : Int) from rfl, refOrder_f h1 h2 hl keys.length _ 0 (by omega) (by omega) (by omega)]
  simp only [Option.bind_some, Int.toNat_natCast]
  exact go keys.length 0 _ (by omega) (by omega)
end Go.Proofs.Ythhmiieimfdffaa.C4
