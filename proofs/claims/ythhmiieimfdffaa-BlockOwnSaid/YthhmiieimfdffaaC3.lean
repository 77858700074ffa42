/- Plain facts: keys that rise, the search by halves, in lists; a layout of keys in blocks, its search, and what it tells. No program in sight. -/
import Derived.Test.YthhmiieimfdffaaC2
namespace Go.Proofs.Ythhmiieimfdffaa.C3
open Go.RowKit Go.Proofs.YthhmiieimfdffaaW.PrintWords C1 C2 Q1
set_option linter.unusedVariables false

/-- The search by halves: where it ends, and how many were compared. -/
def halves : Nat → List Int → Int → Nat → Nat → Nat → Nat × Nat
  | 0, _, _, lo, _, c => (lo, c)
  | k + 1, l, key, lo, hi, c =>
    if lo < hi then
      if rd l ((lo + (hi - lo) / 2 : Nat) : Int) < key then halves k l key (lo + (hi - lo) / 2 + 1) hi (c + 1)
      else halves k l key lo (lo + (hi - lo) / 2) (c + 1)
    else (lo, c)
theorem halves_end (k : Nat) {l : List Int} {key : Int} {a b c : Nat} (h : ¬ a < b) : halves k l key a b c = (a, c) := by
  cases k with
  | zero => rfl
  | succ k => simp only [halves]; rw [if_neg h]
/-- Keys rise. -/
def risingB : List Int → Bool
  | [] => true
  | [_] => true
  | x :: y :: r => decide (x < y) && risingB (y :: r)
/-- How many are less. -/
def less (l : List Int) (key : Int) : Nat := l.countP (· < key)
theorem rd_nat (l : List Int) (i : Nat) : rd l (i : Int) = l.getD i 0 := rfl
theorem rising_iff (l : List Int) : risingB l = true ↔ ∀ i, i + 1 < l.length → l.getD i 0 < l.getD (i + 1) 0 := by
  induction l with
  | nil => simp [risingB]
  | cons x r ih =>
    cases r with
    | nil => simp [risingB]
    | cons y r =>
      simp only [risingB, Bool.and_eq_true, decide_eq_true_eq, ih]
      constructor
      · rintro ⟨h0, h⟩ i hi
        cases i with
        | zero => simpa using h0
        | succ i => simpa using h i (by simpa using hi)
      · intro h
        exact ⟨by simpa using h 0 (by simp), fun i hi => by simpa using h (i + 1) (by simpa using hi)⟩
theorem rising_lt {l : List Int} (h : risingB l = true) {i j : Nat} (hij : i < j) (hj : j < l.length) : l.getD i 0 < l.getD j 0 := by
  obtain ⟨d, rfl⟩ : ∃ d, j = i + 1 + d := ⟨j - i - 1, by omega⟩
  clear hij
  induction d with
  | zero => exact (rising_iff l).1 h i (by omega)
  | succ d ih => exact Int.lt_trans (ih (by omega)) ((rising_iff l).1 h _ (by omega))
theorem rising_pair {l : List Int} : risingB l = true ↔ l.Pairwise (· < ·) := by
  rw [List.pairwise_iff_getElem]
  constructor
  · intro h i j hi hj hij
    have := rising_lt h hij hj
    simpa [List.getD_eq_getElem?_getD, hi, hj] using this
  · intro h
    rw [rising_iff]
    intro i hi
    have := h i (i + 1) (by omega) hi (by omega)
    simpa [List.getD_eq_getElem?_getD, hi, show i < l.length by omega] using this
theorem bisect_Rising_is (l : List Int) (hl : l.length ≤ 1000000000000000000) : ∃ k, bisect_Rising.f k l = some (risingB l) := by
  have key : ∀ (d i k : Nat), 1 ≤ i → (l.length ≤ i + d) → d < k → (∀ j, j + 1 < i → j + 1 < l.length → l.getD j 0 < l.getD (j + 1) 0) → bisect_Rising.l0 k l i = some (risingB l) := by
    intro d
    induction d with
    | zero =>
      intro i k h1 hd hk hall
      obtain ⟨k, rfl⟩ : ∃ m, k = m + 1 := ⟨k - 1, by omega⟩
      simp only [bisect_Rising.l0]
      rw [if_neg (by omega)]
      congr 1
      exact ((rising_iff l).2 fun j hj => hall j (by omega) hj).symm
    | succ d ih =>
      intro i k h1 hd hk hall
      obtain ⟨k, rfl⟩ : ∃ m, k = m + 1 := ⟨k - 1, by omega⟩
      simp only [bisect_Rising.l0]
      by_cases hi : i < l.length
      · have e1 : wrap64 ((i : Int) - 1) = ((i - 1 : Nat) : Int) := by unfold wrap64; omega
        have e2 : wrap64 ((i : Int) + 1) = ((i + 1 : Nat) : Int) := by unfold wrap64; omega
        rw [if_pos (by omega), if_pos (by omega), e1, if_pos (by omega), if_pos (by omega), e2, rd_nat, rd_nat]
        by_cases hr : l.getD i 0 ≤ l.getD (i - 1) 0
        · rw [if_pos hr]
          congr 1
          rw [eq_comm, Bool.eq_false_iff]
          intro hf
          have := (rising_iff l).1 hf (i - 1) (by omega)
          rw [show i - 1 + 1 = i by omega] at this
          omega
        · rw [if_neg hr]
          refine ih (i + 1) k (by omega) (by omega) (by omega) fun j hj hjl => ?_
          by_cases e : j + 1 = i
          · subst e
            simp only [Nat.add_sub_cancel] at hr
            omega
          · exact hall j (by omega) hjl
      · rw [if_neg (by omega)]
        congr 1
        exact ((rising_iff l).2 fun j hj => hall j (by omega) hj).symm
  exact ⟨l.length + 1, key l.length 1 _ (by omega) (by omega) (by omega) (fun j hj => by omega)⟩
theorem punnetref11_Rising_is (l : List Int) (hl : l.length ≤ 1000000000000000000) : ∃ k, punnetref11_Rising.f k l = some (risingB l) := by
  have key : ∀ (d i k : Nat), 1 ≤ i → (l.length ≤ i + d) → d < k → (∀ j, j + 1 < i → j + 1 < l.length → l.getD j 0 < l.getD (j + 1) 0) → punnetref11_Rising.l0 k l i = some (risingB l) := by
    intro d
    induction d with
    | zero =>
      intro i k h1 hd hk hall
      obtain ⟨k, rfl⟩ : ∃ m, k = m + 1 := ⟨k - 1, by omega⟩
      simp only [punnetref11_Rising.l0]
      rw [if_neg (by omega)]
      congr 1
      exact ((rising_iff l).2 fun j hj => hall j (by omega) hj).symm
    | succ d ih =>
      intro i k h1 hd hk hall
      obtain ⟨k, rfl⟩ : ∃ m, k = m + 1 := ⟨k - 1, by omega⟩
      simp only [punnetref11_Rising.l0]
      by_cases hi : i < l.length
      · have e1 : wrap64 ((i : Int) - 1) = ((i - 1 : Nat) : Int) := by unfold wrap64; omega
        have e2 : wrap64 ((i : Int) + 1) = ((i + 1 : Nat) : Int) := by unfold wrap64; omega
        rw [if_pos (by omega), if_pos (by omega), e1, if_pos (by omega), if_pos (by omega), e2, rd_nat, rd_nat]
        by_cases hr : l.getD i 0 ≤ l.getD (i - 1) 0
        · rw [if_pos hr]
          congr 1
          rw [eq_comm, Bool.eq_false_iff]
          intro hf
          have := (rising_iff l).1 hf (i - 1) (by omega)
          rw [show i - 1 + 1 = i by omega] at this
          omega
        · rw [if_neg hr]
          refine ih (i + 1) k (by omega) (by omega) (by omega) fun j hj hjl => ?_
          by_cases e : j + 1 = i
          · subst e
            simp only [Nat.add_sub_cancel] at hr
            omega
          · exact hall j (by omega) hjl
      · rw [if_neg (by omega)]
        congr 1
        exact ((rising_iff l).2 fun j hj => hall j (by omega) hj).symm
  exact ⟨l.length + 1, key l.length 1 _ (by omega) (by omega) (by omega) (fun j hj => by omega)⟩

theorem halves_count (l : List Int) (key : Int) : ∀ (k a b c : Nat), (halves k l key a b c).2 = (halves k l key a b 0).2 + c := by
  intro k
  induction k with
  | zero => intro a b c; simp [halves]
  | succ k ih =>
    intro a b c
    simp only [halves]
    split
    · split
      · rw [ih _ _ (c + 1), ih _ _ (0 + 1)]; omega
      · rw [ih _ _ (c + 1), ih _ _ (0 + 1)]; omega
    · simp
theorem halves_place (l : List Int) (key : Int) : ∀ (k a b c c' : Nat), (halves k l key a b c).1 = (halves k l key a b c').1 := by
  intro k
  induction k with
  | zero => intro a b c c'; rfl
  | succ k ih =>
    intro a b c c'
    simp only [halves]
    split
    · split
      · exact ih _ _ _ _
      · exact ih _ _ _ _
    · rfl
theorem halves_le (l : List Int) (key : Int) : ∀ (k a b : Nat), a ≤ b → a ≤ (halves k l key a b 0).1 ∧ (halves k l key a b 0).1 ≤ b ∧ (halves k l key a b 0).2 ≤ b - a := by
  intro k
  induction k with
  | zero => intro a b h; simp [halves, h]
  | succ k ih =>
    intro a b h
    simp only [halves]
    split
    · split
      · have := ih (a + (b - a) / 2 + 1) b (by omega)
        rw [halves_count, halves_place l key k _ _ _ 0]
        omega
      · have := ih a (a + (b - a) / 2) (by omega)
        rw [halves_count, halves_place l key k _ _ _ 0]
        omega
    · simp; omega
theorem less_mid {l : List Int} {key : Int} {n : Nat} (hn : n ≤ l.length) (h1 : ∀ i, i < n → l.getD i 0 < key) (h2 : ∀ i, n ≤ i → i < l.length → ¬ l.getD i 0 < key) : less l key = n := by
  have e : less l key = less (l.take n) key + less (l.drop n) key := by unfold less; rw [← List.countP_append, List.take_append_drop]
  have e1 : less (l.take n) key = n := by
    unfold less
    rw [List.countP_eq_length.2, List.length_take]
    · omega
    · intro x hx
      obtain ⟨i, hi, rfl⟩ := List.mem_iff_getElem.1 hx
      rw [List.length_take] at hi
      have := h1 i (by omega)
      rw [List.getElem_take]
      simpa [List.getD_eq_getElem?_getD, show i < l.length by omega] using this
  have e2 : less (l.drop n) key = 0 := by
    unfold less
    rw [List.countP_eq_zero]
    intro x hx
    obtain ⟨i, hi, rfl⟩ := List.mem_iff_getElem.1 hx
    rw [List.length_drop] at hi
    have := h2 (n + i) (by omega) (by omega)
    rw [List.getElem_drop]
    simpa [List.getD_eq_getElem?_getD, show n + i < l.length by omega] using this
  omega
theorem halves_split {l : List Int} (key : Int) (hr : risingB l = true) : ∀ (k a b c : Nat), a ≤ b → b ≤ l.length → b - a ≤ k → (∀ i, i < a → l.getD i 0 < key) → (∀ i, b ≤ i → i < l.length → ¬ l.getD i 0 < key) →
    (halves k l key a b c).1 ≤ l.length ∧ (∀ i, i < (halves k l key a b c).1 → l.getD i 0 < key) ∧ (∀ i, (halves k l key a b c).1 ≤ i → i < l.length → ¬ l.getD i 0 < key) := by
  intro k
  induction k with
  | zero =>
    intro a b c h h2 h3 ha hb
    exact ⟨show a ≤ _ by omega, ha, fun i hi => hb i (by have : a ≤ i := hi; omega)⟩
  | succ k ih =>
    intro a b c h h2 h3 ha hb
    by_cases hab : a < b
    · simp only [halves]
      rw [if_pos hab, rd_nat]
      by_cases hc : l.getD (a + (b - a) / 2) 0 < key
      · rw [if_pos hc]
        refine ih _ _ _ (by omega) h2 (by omega) (fun i hi => ?_) hb
        by_cases e : i = a + (b - a) / 2
        · rw [e]; exact hc
        · exact Int.lt_trans (rising_lt hr (show i < a + (b - a) / 2 by omega) (by omega)) hc
      · rw [if_neg hc]
        refine ih _ _ _ (by omega) (by omega) (by omega) ha (fun i hi hil => ?_)
        by_cases e : i = a + (b - a) / 2
        · rw [e]; exact hc
        · have := rising_lt hr (show a + (b - a) / 2 < i by omega) hil
          omega
    · rw [halves_end _ hab]
      exact ⟨show a ≤ _ by omega, ha, fun i hi => hb i (by have : a ≤ i := hi; omega)⟩
/-- The search's answers. -/
def rankN (l : List Int) (key : Int) : Nat := (halves l.length l key 0 l.length 0).1
def comparedN (l : List Int) (key : Int) : Nat := (halves l.length l key 0 l.length 0).2
theorem rankN_split {l : List Int} (key : Int) (hr : risingB l = true) : (∀ i, i < rankN l key → l.getD i 0 < key) ∧ (∀ i, rankN l key ≤ i → i < l.length → ¬ l.getD i 0 < key) :=
  (halves_split key hr l.length 0 l.length 0 (by omega) (by omega) (by omega) (fun i hi => by omega) (fun i hi hi2 => by omega)).2
theorem rankN_le (l : List Int) (key : Int) : rankN l key ≤ l.length := (halves_le l key _ _ _ (by omega)).2.1
theorem rankN_less {l : List Int} (key : Int) (hr : risingB l = true) : rankN l key = less l key := (less_mid (rankN_le l key) (rankN_split key hr).1 (rankN_split key hr).2).symm
theorem comparedN_le (l : List Int) (key : Int) : comparedN l key ≤ l.length := by have := (halves_le l key l.length 0 l.length (by omega)).2.2; unfold comparedN; omega
theorem less_f (l : List Int) (key : Int) (hl : l.length ≤ 1000000000) : block_less.f (l.length + 1) l key = some ((rankN l key : Int), (comparedN l key : Int)) := by
  have go : ∀ (k a b c : Nat), a ≤ b → b ≤ l.length → b - a ≤ k → c + (b - a) ≤ 1000000000 → block_less.l0 (k + 1) l key a b c = some (((halves k l key a b c).1 : Int), ((halves k l key a b c).2 : Int)) := by
    intro k
    induction k with
    | zero =>
      intro a b c h1 h2 h3 h4
      simp only [block_less.l0]
      rw [if_neg (by omega)]
      rfl
    | succ k ih =>
      intro a b c h1 h2 h3 h4
      rw [block_less.l0]
      by_cases hab : a < b
      · have em : wrap64 (Int.tdiv (wrap64 ((a : Int) + b)) 2) = ((a + (b - a) / 2 : Nat) : Int) := by
          have : wrap64 ((a : Int) + b) = ((a + b : Nat) : Int) := by unfold wrap64; omega
          rw [this, show Int.tdiv ((a + b : Nat) : Int) 2 = (((a + b) / 2 : Nat) : Int) from rfl]
          unfold wrap64; omega
        rw [if_pos (by omega), em, if_pos (by omega), if_pos (by omega), rd_nat, wr (((a + (b - a) / 2 : Nat) : Int) + 1) (by omega), wr ((c : Int) + 1) (by omega)]
        simp only [halves]
        rw [if_pos hab, rd_nat, show ((a + (b - a) / 2 : Nat) : Int) + 1 = ((a + (b - a) / 2 + 1 : Nat) : Int) by omega, show (c : Int) + 1 = ((c + 1 : Nat) : Int) by omega]
        by_cases hc : l.getD (a + (b - a) / 2) 0 < key
        · rw [if_pos hc, if_pos hc, ih _ _ _ (by omega) (by omega) (by omega) (by omega)]
        · rw [if_neg hc, if_neg hc, ih _ _ _ (by omega) (by omega) (by omega) (by omega)]
      · rw [if_neg (by omega), halves_end _ hab]
  exact go l.length 0 l.length 0 (by omega) (by omega) (by omega) (by omega)

/-! Layouts in blocks. -/
/-- A block's keys. -/
def blkOf (l : List Int) (w i : Nat) : List Int := (l.drop (i * w)).take (sz l.length w i)
theorem blkOf_length {l : List Int} {w i : Nat} : (blkOf l w i).length = sz l.length w i := by
  unfold blkOf sz
  simp
theorem blkOf_at {l : List Int} {w i j : Nat} (hj : j < sz l.length w i) : (blkOf l w i).getD j 0 = l.getD (i * w + j) 0 := by
  unfold blkOf
  rw [List.getD_eq_getElem?_getD, List.getD_eq_getElem?_getD, List.getElem?_take, if_pos hj, List.getElem?_drop]
/-- The search from a block on. -/
def srch (l : List Int) (w : Nat) (key : Int) (i : Nat) : Nat × Nat :=
  if h : 0 < w ∧ i * w < l.length then
    (rankN (blkOf l w i) key + sumC l.length w (kid w i) (rankN (blkOf l w i) key) + (srch l w key (kid w i + rankN (blkOf l w i) key)).1,
     comparedN (blkOf l w i) key + (srch l w key (kid w i + rankN (blkOf l w i) key)).2)
  else (0, 0)
termination_by l.length - i
decreasing_by
  all_goals
    have := lt_of_in h
    have := kid_gt w i
    omega
theorem srch_in {l : List Int} {w : Nat} {key : Int} {i : Nat} (h : 0 < w ∧ i * w < l.length) : srch l w key i =
    (rankN (blkOf l w i) key + sumC l.length w (kid w i) (rankN (blkOf l w i) key) + (srch l w key (kid w i + rankN (blkOf l w i) key)).1,
     comparedN (blkOf l w i) key + (srch l w key (kid w i + rankN (blkOf l w i) key)).2) := by
  conv => lhs; unfold srch
  rw [dif_pos h]
theorem srch_out {l : List Int} {w : Nat} {key : Int} {i : Nat} (h : ¬ i * w < l.length) : srch l w key i = (0, 0) := by
  unfold srch
  rw [dif_neg (fun c => h c.2)]
theorem sumC_le (n w a : Nat) : ∀ {m k : Nat}, m ≤ k → sumC n w a m ≤ sumC n w a k := by
  intro m k h
  obtain ⟨d, rfl⟩ : ∃ d, k = m + d := ⟨k - m, by omega⟩
  rw [sum_split]
  omega
theorem part_in {n w i : Nat} (h : 0 < w ∧ i * w < n) : sz n w i + sumC n w (kid w i) (sz n w i) + cnt n w (kid w i + sz n w i) = cnt n w i := by
  unfold cnt
  rw [ord_in h, List.length_append, part_length]
theorem srch_le (l : List Int) (w : Nat) (key : Int) : ∀ (d i : Nat), l.length - i ≤ d → (srch l w key i).1 ≤ cnt l.length w i ∧ (srch l w key i).2 ≤ d * w := by
  intro d
  induction d with
  | zero =>
    intro i hd
    by_cases h : 0 < w ∧ i * w < l.length
    · have := lt_of_in h; omega
    · unfold srch; rw [dif_neg h]; simp
  | succ d ih =>
    intro i hd
    by_cases h : 0 < w ∧ i * w < l.length
    · rw [srch_in h]
      have hr := rankN_le (blkOf l w i) key
      have hc := comparedN_le (blkOf l w i) key
      rw [blkOf_length] at hr hc
      have hg := kid_gt w i
      obtain ⟨i1, i2⟩ := ih (kid w i + rankN (blkOf l w i) key) (by omega)
      have hp := part_in h
      simp only
      generalize rankN (blkOf l w i) key = r at *
      have hz : sz l.length w i ≤ w := by unfold sz; omega
      refine ⟨?_, by rw [Nat.add_mul]; omega⟩
      by_cases e : r = sz l.length w i
      · rw [e] at i1 ⊢; omega
      · have h1 : sumC l.length w (kid w i) (r + 1) ≤ sumC l.length w (kid w i) (sz l.length w i) := sumC_le _ _ _ (by omega)
        simp only [sumC] at h1
        omega
    · unfold srch; rw [dif_neg h]; simp

theorem part_more (n w i a : Nat) : ∀ k, ∃ R, C1.part n w i (a + k) = C1.part n w i a ++ R := by
  intro k
  induction k with
  | zero => exact ⟨[], by simp⟩
  | succ k ih =>
    obtain ⟨R, hR⟩ := ih
    exact ⟨R ++ (ord n w (kid w i + (a + k)) ++ [i * w + (a + k)]), by rw [show a + (k + 1) = (a + k) + 1 by omega, part_succ, hR]; simp⟩
theorem part_sub (n w i : Nat) : ∀ m, ((List.range m).map (i * w + ·)).Sublist (C1.part n w i m) := by
  intro m
  induction m with
  | zero => exact List.Sublist.refl _
  | succ m ih =>
    rw [part_succ, List.range_succ, List.map_append]
    exact ih.append ((List.nil_sublist _).append (List.Sublist.refl _))
/-- In a layout whose keys rise in order the search finds how many are less. -/
theorem srch_less (l : List Int) {w : Nat} (hw : 0 < w) (key : Int) : ∀ (d i : Nat), l.length - i ≤ d → ((ord l.length w i).map fun p => l.getD p 0).Pairwise (· < ·) →
    (srch l w key i).1 = less ((ord l.length w i).map fun p => l.getD p 0) key := by
  intro d
  induction d with
  | zero =>
    intro i hd hp
    have h : ¬ i * w < l.length := fun hc => by have := lt_of_in ⟨hw, hc⟩; omega
    rw [srch_out h, ord_out h]
    rfl
  | succ d ih =>
    intro i hd hp
    by_cases h : i * w < l.length
    · have hg := kid_gt w i
      rw [srch_in ⟨hw, h⟩]
      simp only
      rw [ord_in ⟨hw, h⟩] at hp ⊢
      have hb : risingB (blkOf l w i) = true := by
        rw [rising_pair]
        have e : blkOf l w i = ((List.range (sz l.length w i)).map (i * w + ·)).map fun p => l.getD p 0 := by
          refine List.ext_getElem (by simp [blkOf_length]) fun j h1 h2 => ?_
          have hj : j < sz l.length w i := by rw [blkOf_length] at h1; exact h1
          have := blkOf_at hj
          rw [List.getD_eq_getElem?_getD, List.getElem?_eq_getElem h1] at this
          simpa using this
        rw [e]
        refine hp.sublist (((part_sub l.length w i _).trans (List.sublist_append_left _ _)).map _)
      have hs := rankN_split key hb
      have hr := rankN_le (blkOf l w i) key
      rw [blkOf_length] at hs hr
      generalize rankN (blkOf l w i) key = r at *
      have hall : ∀ {L : List Nat} {q : Nat}, ((L ++ [q]).map fun p => l.getD p 0).Pairwise (· < ·) → l.getD q 0 < key → less ((L ++ [q]).map fun p => l.getD p 0) key = (L ++ [q]).length := by
        intro L q hP hq
        unfold less
        rw [List.countP_eq_length.2]
        · simp
        · intro x hx
          rw [List.map_append, List.pairwise_append] at hP
          rw [List.map_append, List.mem_append] at hx
          rcases hx with hx | hx
          · have := hP.2.2 x hx (l.getD q 0) (by simp)
            exact decide_eq_true (Int.lt_trans this hq)
          · simp at hx
            subst hx
            simpa using hq
      have hnone : ∀ {R : List Nat} {q : Nat}, ((q :: R).map fun p => l.getD p 0).Pairwise (· < ·) → ¬ l.getD q 0 < key → less ((q :: R).map fun p => l.getD p 0) key = 0 := by
        intro R q hP hq
        unfold less
        rw [List.countP_eq_zero]
        intro x hx
        rw [List.map_cons, List.pairwise_cons] at hP
        rw [List.map_cons, List.mem_cons] at hx
        rcases hx with rfl | hx
        · simpa using hq
        · have := hP.1 x hx
          simp
          omega
      have hfirst : ∀ m, m ≤ r → ((C1.part l.length w i m).map fun p => l.getD p 0).Pairwise (· < ·) → less ((C1.part l.length w i m).map fun p => l.getD p 0) key = m + sumC l.length w (kid w i) m := by
        intro m hm hP
        cases m with
        | zero => rfl
        | succ m =>
          rw [part_succ, ← List.append_assoc] at hP ⊢
          rw [hall hP (by rw [← blkOf_at (show m < sz l.length w i by omega)]; exact hs.1 m (by omega)), ← part_length, part_succ, ← List.append_assoc]
      have happ : ∀ (a b : List Nat), less ((a ++ b).map fun p => l.getD p 0) key = less (a.map fun p => l.getD p 0) key + less (b.map fun p => l.getD p 0) key := by
        intro a b
        unfold less
        rw [List.map_append, List.countP_append]
      by_cases e : r = sz l.length w i
      · rw [← e] at hp ⊢
        rw [List.map_append, List.pairwise_append] at hp
        rw [happ, hfirst r (Nat.le_refl _) hp.1, ih _ (by omega) hp.2.1]
      · obtain ⟨R, hR⟩ := part_more l.length w i (r + 1) (sz l.length w i - (r + 1))
        rw [show r + 1 + (sz l.length w i - (r + 1)) = sz l.length w i by omega, part_succ] at hR
        have hR2 : C1.part l.length w i (sz l.length w i) ++ ord l.length w (kid w i + sz l.length w i) = (C1.part l.length w i r ++ ord l.length w (kid w i + r)) ++ ((i * w + r) :: (R ++ ord l.length w (kid w i + sz l.length w i))) := by
          rw [hR]; simp
        rw [hR2] at hp ⊢
        rw [List.map_append, List.pairwise_append] at hp
        have hp2 := hp.1
        rw [List.map_append, List.pairwise_append] at hp2
        rw [happ, happ, hfirst r (Nat.le_refl _) hp2.1, ih _ (by omega) hp2.2.1, hnone hp.2.1 (by rw [← blkOf_at (show r < sz l.length w i by omega)]; exact hs.2 r (Nat.le_refl _) (by omega))]
        omega
    · rw [srch_out h, ord_out h]
      rfl

/-- Keys put at places, one behind the other, from the j-th key on. -/
def fill (keys : List Int) : List Nat → Nat → List Int → List Int
  | [], _, acc => acc
  | p :: ps, j, acc => fill keys ps (j + 1) (acc.set p (keys.getD j 0))
theorem fill_snoc (keys : List Int) (q : Nat) : ∀ (ps : List Nat) (j : Nat) (acc : List Int), fill keys (ps ++ [q]) j acc = (fill keys ps j acc).set q (keys.getD (j + ps.length) 0) := by
  intro ps
  induction ps with
  | nil => intro j acc; simp [fill]
  | cons p ps ih =>
    intro j acc
    simp only [List.cons_append, fill]
    rw [ih]
    congr 2
    simp
    omega
theorem fill_length (keys : List Int) : ∀ (ps : List Nat) (j : Nat) (acc : List Int), (fill keys ps j acc).length = acc.length := by
  intro ps
  induction ps with
  | nil => intro j acc; rfl
  | cons p ps ih => intro j acc; simp only [fill]; rw [ih]; simp
theorem fill_out (keys : List Int) (q : Nat) : ∀ (ps : List Nat) (j : Nat) (acc : List Int), q ∉ ps → (fill keys ps j acc).getD q 0 = acc.getD q 0 := by
  intro ps
  induction ps with
  | nil => intro j acc _; rfl
  | cons p ps ih =>
    intro j acc h
    simp only [List.mem_cons, not_or] at h
    simp only [fill]
    rw [ih _ _ h.2]
    simp only [List.getD_eq_getElem?_getD]
    rw [List.getElem?_set_ne (by omega)]
theorem fill_at (keys : List Int) : ∀ (ps : List Nat) (j : Nat) (acc : List Int), ps.Nodup → (∀ p ∈ ps, p < acc.length) → ∀ i (hi : i < ps.length), (fill keys ps j acc).getD ps[i] 0 = keys.getD (j + i) 0 := by
  intro ps
  induction ps with
  | nil => intro j acc _ _ i hi; simp at hi
  | cons p ps ih =>
    intro j acc hn hl i hi
    rw [List.nodup_cons] at hn
    simp only [fill]
    cases i with
    | zero =>
      simp only [List.getElem_cons_zero, Nat.add_zero]
      rw [fill_out keys p ps _ _ hn.1, List.getD_eq_getElem?_getD, List.getElem?_set_self (hl p (by simp))]
      rfl
    | succ i =>
      simp only [List.getElem_cons_succ]
      rw [ih (j + 1) _ hn.2 (fun q hq => by rw [List.length_set]; exact hl q (by simp [hq])) i (by simpa using hi)]
      congr 1
      omega
/-- The layout of keys. -/
def layOf (keys : List Int) (w : Nat) : List Int := fill keys (ord keys.length w 0) 0 (List.replicate keys.length 0)
/-- A layout's keys, in order. -/
def sortedOf (l : List Int) (w : Nat) : List Int := (ord l.length w 0).map fun p => l.getD p 0
theorem layOf_length (keys : List Int) (w : Nat) : (layOf keys w).length = keys.length := by unfold layOf; rw [fill_length]; simp
theorem layOf_at (keys : List Int) {w : Nat} (hw : 0 < w) (i : Nat) (hi : i < keys.length) : (layOf keys w).getD ((ord keys.length w 0).getD i 0) 0 = keys.getD i 0 := by
  have hl := length_zero (n := keys.length) hw
  have h := fill_at keys (ord keys.length w 0) 0 (List.replicate keys.length 0) (nodup hw _) (fun p hp => by simpa using ((mem_ord hw).1 hp).1) i (by omega)
  rw [Nat.zero_add] at h
  rw [show (ord keys.length w 0).getD i 0 = (ord keys.length w 0)[i]'(by omega) by simp [List.getD_eq_getElem?_getD, hl, hi]]
  exact h
theorem sortedOf_length (l : List Int) {w : Nat} (hw : 0 < w) : (sortedOf l w).length = l.length := by unfold sortedOf; rw [List.length_map, length_zero hw]
theorem sorted_lay (keys : List Int) {w : Nat} (hw : 0 < w) : sortedOf (layOf keys w) w = keys := by
  refine List.ext_getElem (by rw [sortedOf_length _ hw, layOf_length]) fun i h1 h2 => ?_
  have hl := length_zero (n := keys.length) hw
  have h := layOf_at keys hw i h2
  unfold sortedOf
  simp only [List.getElem_map, layOf_length]
  rw [show (ord keys.length w 0)[i]'(by omega) = (ord keys.length w 0).getD i 0 by simp [List.getD_eq_getElem?_getD, hl, h2], h]
  simp [List.getD_eq_getElem?_getD, h2]
/-- The rank of a key in the layout of keys that rise. -/
theorem srch_lay (keys : List Int) {w : Nat} (hw : 0 < w) (hr : risingB keys = true) (key : Int) : (srch (layOf keys w) w key 0).1 = less keys key := by
  have h := srch_less (layOf keys w) hw key _ 0 (Nat.le_refl _)
  have e : ((ord (layOf keys w).length w 0).map fun p => (layOf keys w).getD p 0) = keys := sorted_lay keys hw
  rw [e] at h
  exact h (rising_pair.1 hr)
theorem less_own {l : List Int} (hr : risingB l = true) (i : Nat) (hi : i < l.length) : less l (l.getD i 0) = i :=
  less_mid (by omega) (fun j hj => rising_lt hr hj hi) (fun j hj hjl => by
    by_cases e : j = i
    · rw [e]; omega
    · have := rising_lt hr (show i < j by omega) hjl
      omega)
/-- In one block keys stand as they are. -/
theorem ord_one {n w : Nat} (hw : 0 < w) (hn : n ≤ w) : ord n w 0 = List.range n := by
  by_cases h0 : n = 0
  · subst h0; rw [ord_out (by omega)]; rfl
  · have hz : sz n w 0 = n := by unfold sz; omega
    have hout : ∀ k, ord n w (kid w 0 + k) = [] := fun k => ord_out (by
      unfold kid
      have : 1 * w ≤ (0 * (w + 1) + 1 + k) * w := Nat.mul_le_mul_right _ (by omega)
      omega)
    rw [ord_in ⟨hw, by omega⟩, hout, hz, List.append_nil]
    have : ∀ m, C1.part n w 0 m = List.range m := by
      intro m
      induction m with
      | zero => rfl
      | succ m ih => rw [part_succ, ih, hout, List.range_succ]; simp
    exact this n
theorem lay_one (keys : List Int) {w : Nat} (hw : 0 < w) (hn : keys.length ≤ w) : layOf keys w = keys := by
  refine List.ext_getElem (layOf_length _ _) fun i h1 h2 => ?_
  have h := layOf_at keys hw i h2
  rw [ord_one hw hn] at h
  simpa [List.getD_eq_getElem?_getD, h1, h2] using h
theorem compared_one (keys : List Int) {w : Nat} (hw : 0 < w) (hn : keys.length ≤ w) (key : Int) : (srch (layOf keys w) w key 0).2 = comparedN keys key := by
  rw [lay_one keys hw hn]
  by_cases h0 : keys.length = 0
  · rw [srch_out (by omega)]
    have := comparedN_le keys key
    omega
  · rw [srch_in ⟨hw, by omega⟩, srch_out (i := kid w 0 + _) (by
      unfold kid
      have : 1 * w ≤ (0 * (w + 1) + 1 + rankN (blkOf keys w 0) key) * w := Nat.mul_le_mul_right _ (by omega)
      omega)]
    have hb : blkOf keys w 0 = keys := by
      unfold blkOf sz
      rw [Nat.zero_mul, List.drop_zero, List.take_of_length_le (by omega)]
    rw [hb]
    simp
end Go.Proofs.Ythhmiieimfdffaa.C3
