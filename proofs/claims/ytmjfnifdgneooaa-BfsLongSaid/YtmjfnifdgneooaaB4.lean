/- Plain facts: what the printed functions of the layer compute: sizes, orders, searches, places, layouts. No program in sight. -/
import Derived.Test.YtmjfnifdgneooaaB3
namespace Go.Proofs.Ytmjfnifdgneooaa.B4
open Go.RowKit Go.Proofs.YtmjfnifdgneooaaW.PrintWords B1 B2 B3

/-- How many places are below p, it among them. -/
def cnt (many p : Nat) : Nat := (inOrd many p).length
theorem cnt_in {many p : Nat} (h : p < many) : cnt many p = cnt many (2 * p + 1) + 1 + cnt many (2 * p + 2) := len_in h
theorem cnt_out {many p : Nat} (h : ¬ p < many) : cnt many p = 0 := by unfold cnt; rw [inOrd_out h]; rfl
theorem cnt_le (many p : Nat) : cnt many p ≤ many := length_le p
/-- .. below m places side by side. -/
def sumCnt (many p : Nat) : Nat → Nat
  | 0 => 0
  | m + 1 => sumCnt many p m + cnt many (p + m)
theorem sum_split (many a m : Nat) : ∀ n, sumCnt many a (m + n) = sumCnt many a m + sumCnt many (a + m) n := by
  intro n
  induction n with
  | zero => rfl
  | succ n ih =>
    show sumCnt many a (m + n) + cnt many (a + (m + n)) = _
    rw [ih]
    simp only [sumCnt]
    rw [← Nat.add_assoc a m n]
    omega
theorem sum_level (many p : Nat) : ∀ m, sumCnt many p m = (min (p + m) many - min p many) + sumCnt many (2 * p + 1) (2 * m) := by
  intro m
  induction m with
  | zero => simp [sumCnt]
  | succ m ih =>
    show sumCnt many p m + cnt many (p + m) = _
    rw [ih, show 2 * (m + 1) = 2 * m + 1 + 1 by omega]
    simp only [sumCnt]
    have e1 : 2 * p + 1 + 2 * m = 2 * (p + m) + 1 := by omega
    have e2 : 2 * p + 1 + (2 * m + 1) = 2 * (p + m) + 2 := by omega
    rw [e1, e2]
    by_cases h : p + m < many
    · rw [cnt_in h]; omega
    · rw [cnt_out h, cnt_out (p := 2 * (p + m) + 1) (by omega), cnt_out (p := 2 * (p + m) + 2) (by omega)]; omega
theorem sum_out {many p : Nat} (h : many ≤ p) : ∀ m, sumCnt many p m = 0 := by
  intro m
  induction m with
  | zero => rfl
  | succ m ih => show _ + cnt many (p + m) = 0; rw [ih, cnt_out (by omega)]
theorem sum_one (many p : Nat) : sumCnt many p 1 = cnt many p := by simp [sumCnt]

/-- No wrap where the number fits. -/
theorem wr (x : Int) (h : -9223372036854775808 ≤ x ∧ x ≤ 9223372036854775807) : wrap64 x = x := IntWalk.wrap64_in x h
theorem size_f {many : Nat} (hm : many ≤ 1000000000) : ∀ (d k n p m : Nat), many - p ≤ d → d < k → 0 < m → m ≤ p + 1 → n + sumCnt many p m ≤ 4000000000 → PBfsSearches.bfs_size.l0 k many n p ((p + m - 1 : Nat) : Int) = some ((n + sumCnt many p m : Nat) : Int) := by
  intro d
  induction d with
  | zero =>
    intro k n p m hd hk h0 hp hn
    obtain ⟨k, rfl⟩ : ∃ j, k = j + 1 := ⟨k - 1, by omega⟩
    simp only [PBfsSearches.bfs_size.l0]
    rw [if_neg (by omega), sum_out (by omega)]
    rfl
  | succ d ih =>
    intro k n p m hd hk h0 hp hn
    obtain ⟨k, rfl⟩ : ∃ j, k = j + 1 := ⟨k - 1, by omega⟩
    simp only [PBfsSearches.bfs_size.l0]
    by_cases h : p < many
    · rw [if_pos (by omega)]
      have hl := sum_level many p m
      have e1 : wrap64 ((wrap64 (2 * (p : Int))) + 1) = ((2 * p + 1 : Nat) : Int) := by rw [wr (2 * (p : Int)) (by omega), wr (2 * (p : Int) + 1) (by omega)]; omega
      have e2 : wrap64 ((wrap64 (2 * ((p + m - 1 : Nat) : Int))) + 2) = ((2 * p + 1 + 2 * m - 1 : Nat) : Int) := by rw [wr (2 * ((p + m - 1 : Nat) : Int)) (by omega), wr _ (by omega)]; omega
      have e3 : wrap64 ((many : Int) - 1) = ((many - 1 : Nat) : Int) := by rw [wr _ (by omega)]; omega
      have e4 : mn ((p + m - 1 : Nat) : Int) ((many - 1 : Nat) : Int) = ((min (p + m) many - 1 : Nat) : Int) := by unfold mn; split <;> omega
      obtain ⟨q, hq⟩ : ∃ q, min (p + m) many - min p many = q := ⟨_, rfl⟩
      have e5 : wrap64 ((n : Int) + wrap64 (wrap64 (((min (p + m) many - 1 : Nat) : Int) - p) + 1)) = ((n + q : Nat) : Int) := by
        have e : ((min (p + m) many - 1 : Nat) : Int) - p = (q : Int) - 1 := by omega
        rw [e, wr ((q : Int) - 1) (by omega), show (q : Int) - 1 + 1 = q by omega, wr (q : Int) (by omega), wr _ (by omega)]; omega
      rw [hq] at hl
      rw [e3, e4, e5, e1, e2, ih k _ (2 * p + 1) (2 * m) (by omega) (by omega) (by omega) (by omega) (by omega), hl]
      congr 2
      omega
    · rw [if_neg (by omega), sum_out (by omega)]
      rfl
theorem size_any {many : Nat} (p : Nat) (hm : many ≤ 1000000000) (k : Nat) (hk : many < k) : PBfsSearches.bfs_size.f k p many = some (cnt many p : Int) := by
  have h := size_f hm many k 0 p 1 (by omega) (by omega) (by omega) (by omega) (by have := cnt_le many p; rw [sum_one]; omega)
  rw [sum_one] at h
  simpa [PBfsSearches.bfs_size.f] using h

/-- Places as whole numbers. -/
def nat (l : List Nat) : List Int := l.map Int.ofNat
theorem nat_length (l : List Nat) : (nat l).length = l.length := by simp [nat]
theorem order_fPBfsSearches {many : Nat} (hm : many ≤ 1000000000) : ∀ (d k p : Nat), many - p ≤ d → d < k → p ≤ 2 * many + 2 → PBfsSearches.punnetref18_Order.f k p many = some (nat (inOrd many p)) := by
  intro d
  induction d with
  | zero =>
    intro k p hd hk hp
    obtain ⟨k, rfl⟩ : ∃ j, k = j + 1 := ⟨k - 1, by omega⟩
    simp only [PBfsSearches.punnetref18_Order.f]
    rw [if_pos (by omega), inOrd_out (by omega)]
    rfl
  | succ d ih =>
    intro k p hd hk hp
    obtain ⟨k, rfl⟩ : ∃ j, k = j + 1 := ⟨k - 1, by omega⟩
    simp only [PBfsSearches.punnetref18_Order.f]
    by_cases h : p < many
    · have e1 : wrap64 ((wrap64 (2 * (p : Int))) + 1) = ((2 * p + 1 : Nat) : Int) := by rw [wr (2 * (p : Int)) (by omega), wr (2 * (p : Int) + 1) (by omega)]; omega
      have e2 : wrap64 ((wrap64 (2 * (p : Int))) + 2) = ((2 * p + 2 : Nat) : Int) := by rw [wr (2 * (p : Int)) (by omega), wr (2 * (p : Int) + 2) (by omega)]; omega
      have l1 := length_le (many := many) (2 * p + 1)
      have l2 := length_le (many := many) (2 * p + 2)
      rw [if_neg (by omega), e1, ih k (2 * p + 1) (by omega) (by omega) (by omega)]
      simp only [Option.bind_some]
      rw [if_pos (by rw [nat_length]; omega), e2, ih k (2 * p + 2) (by omega) (by omega) (by omega)]
      simp only [Option.bind_some]
      rw [if_pos (by rw [List.length_append, nat_length, nat_length, List.length_singleton]; omega), inOrd_in h]
      simp [nat]
    · rw [if_pos (by omega), inOrd_out h]
      rfl
theorem order_fPBfsOf {many : Nat} (hm : many ≤ 1000000000) : ∀ (d k p : Nat), many - p ≤ d → d < k → p ≤ 2 * many + 2 → PBfsOf.punnetref18_Order.f k p many = some (nat (inOrd many p)) := by
  intro d
  induction d with
  | zero =>
    intro k p hd hk hp
    obtain ⟨k, rfl⟩ : ∃ j, k = j + 1 := ⟨k - 1, by omega⟩
    simp only [PBfsOf.punnetref18_Order.f]
    rw [if_pos (by omega), inOrd_out (by omega)]
    rfl
  | succ d ih =>
    intro k p hd hk hp
    obtain ⟨k, rfl⟩ : ∃ j, k = j + 1 := ⟨k - 1, by omega⟩
    simp only [PBfsOf.punnetref18_Order.f]
    by_cases h : p < many
    · have e1 : wrap64 ((wrap64 (2 * (p : Int))) + 1) = ((2 * p + 1 : Nat) : Int) := by rw [wr (2 * (p : Int)) (by omega), wr (2 * (p : Int) + 1) (by omega)]; omega
      have e2 : wrap64 ((wrap64 (2 * (p : Int))) + 2) = ((2 * p + 2 : Nat) : Int) := by rw [wr (2 * (p : Int)) (by omega), wr (2 * (p : Int) + 2) (by omega)]; omega
      have l1 := length_le (many := many) (2 * p + 1)
      have l2 := length_le (many := many) (2 * p + 2)
      rw [if_neg (by omega), e1, ih k (2 * p + 1) (by omega) (by omega) (by omega)]
      simp only [Option.bind_some]
      rw [if_pos (by rw [nat_length]; omega), e2, ih k (2 * p + 2) (by omega) (by omega) (by omega)]
      simp only [Option.bind_some]
      rw [if_pos (by rw [List.length_append, nat_length, nat_length, List.length_singleton]; omega), inOrd_in h]
      simp [nat]
    · rw [if_pos (by omega), inOrd_out h]
      rfl

/-- The search from a place on. -/
def srch (l : List Int) (key : Int) (p : Nat) : Nat × Nat :=
  if p < l.length then
    if l.getD p 0 < key then ((srch l key (2 * p + 2)).1 + 1 + cnt l.length (2 * p + 1), (srch l key (2 * p + 2)).2 + 1)
    else ((srch l key (2 * p + 1)).1, (srch l key (2 * p + 1)).2 + 1)
  else (0, 0)
termination_by l.length - p
theorem srch_lt {l : List Int} {key : Int} {p : Nat} (h : p < l.length) (hc : l.getD p 0 < key) : srch l key p = ((srch l key (2 * p + 2)).1 + 1 + cnt l.length (2 * p + 1), (srch l key (2 * p + 2)).2 + 1) := by
  conv => lhs; unfold srch
  rw [if_pos h, if_pos hc]
theorem srch_ge {l : List Int} {key : Int} {p : Nat} (h : p < l.length) (hc : ¬ l.getD p 0 < key) : srch l key p = ((srch l key (2 * p + 1)).1, (srch l key (2 * p + 1)).2 + 1) := by
  conv => lhs; unfold srch
  rw [if_pos h, if_neg hc]
theorem srch_out {l : List Int} {key : Int} {p : Nat} (h : ¬ p < l.length) : srch l key p = (0, 0) := by
  unfold srch
  rw [if_neg h]
theorem srch_le (l : List Int) (key : Int) : ∀ (d p : Nat), l.length - p ≤ d → (srch l key p).1 ≤ cnt l.length p ∧ (srch l key p).2 ≤ d := by
  intro d
  induction d with
  | zero => intro p h; rw [srch_out (by omega)]; simp
  | succ d ih =>
    intro p h
    by_cases hp : p < l.length
    · by_cases hc : l.getD p 0 < key
      · have := ih (2 * p + 2) (by omega)
        rw [srch_lt hp hc, cnt_in hp]
        simp only
        omega
      · have := ih (2 * p + 1) (by omega)
        rw [srch_ge hp hc, cnt_in hp]
        simp only
        omega
    · rw [srch_out hp]; simp
theorem search_f (l : List Int) (key : Int) (hl : l.length ≤ 100000000) : ∀ (d k p : Nat), l.length - p ≤ d → l.length + d < k → d ≤ 100000000 → p ≤ 2 * l.length + 2 → PBfsSearches.punnetref18_Search.f k l key p = some (((srch l key p).1 : Int), ((srch l key p).2 : Int)) := by
  intro d
  induction d with
  | zero =>
    intro k p hd hk hd2 hp
    obtain ⟨k, rfl⟩ : ∃ j, k = j + 1 := ⟨k - 1, by omega⟩
    simp only [PBfsSearches.punnetref18_Search.f]
    rw [if_pos (by omega), srch_out (by omega)]
    rfl
  | succ d ih =>
    intro k p hd hk hd2 hp
    obtain ⟨k, rfl⟩ : ∃ j, k = j + 1 := ⟨k - 1, by omega⟩
    simp only [PBfsSearches.punnetref18_Search.f]
    by_cases h : p < l.length
    · have e1 : wrap64 ((wrap64 (2 * (p : Int))) + 1) = ((2 * p + 1 : Nat) : Int) := by rw [wr (2 * (p : Int)) (by omega), wr (2 * (p : Int) + 1) (by omega)]; omega
      have e2 : wrap64 ((wrap64 (2 * (p : Int))) + 2) = ((2 * p + 2 : Nat) : Int) := by rw [wr (2 * (p : Int)) (by omega), wr (2 * (p : Int) + 2) (by omega)]; omega
      rw [if_neg (by omega), if_pos (by omega), if_pos (by omega), rd_nat]
      by_cases hc : l.getD p 0 < key
      · have b1 := srch_le l key d (2 * p + 2) (by omega)
        have b2 := cnt_le l.length (2 * p + 2)
        have b3 := cnt_le l.length (2 * p + 1)
        rw [if_pos hc, e2, ih k (2 * p + 2) (by omega) (by omega) (by omega) (by omega), srch_lt h hc]
        simp only [Option.bind_some]
        rw [e1, order_fPBfsSearches (by omega) l.length k (2 * p + 1) (by omega) (by omega) (by omega)]
        simp only [Option.bind_some, nat_length]
        rw [wr (((srch l key (2 * p + 2)).1 : Int) + 1) (by omega), wr _ (by unfold cnt at b3; omega), wr _ (by omega)]
        simp [cnt]
      · have b1 := srch_le l key d (2 * p + 1) (by omega)
        rw [if_neg hc, e1, ih k (2 * p + 1) (by omega) (by omega) (by omega) (by omega), srch_ge h hc]
        simp only [Option.bind_some]
        rw [wr _ (by omega)]
        simp
    · rw [if_pos (by omega), srch_out h]
      rfl
theorem rank_f (l : List Int) (key : Int) (hl : l.length ≤ 100000000) : ∀ (d k p r c : Nat), l.length - p ≤ d → l.length + d < k → p ≤ 2 * l.length + 2 → r + cnt l.length p ≤ l.length →
    c + d ≤ 400000000 → PBfsSearches.bfs_Layout_Rank.l0 k key r c p l = some (((r + (srch l key p).1 : Nat) : Int), ((c + (srch l key p).2 : Nat) : Int)) := by
  intro d
  induction d with
  | zero =>
    intro k p r c hd hk hp hr hcd
    obtain ⟨k, rfl⟩ : ∃ j, k = j + 1 := ⟨k - 1, by omega⟩
    simp only [PBfsSearches.bfs_Layout_Rank.l0]
    rw [if_neg (by omega), srch_out (by omega)]
    rfl
  | succ d ih =>
    intro k p r c hd hk hp hr hcd
    obtain ⟨k, rfl⟩ : ∃ j, k = j + 1 := ⟨k - 1, by omega⟩
    simp only [PBfsSearches.bfs_Layout_Rank.l0]
    by_cases h : p < l.length
    · have e1 : wrap64 ((wrap64 (2 * (p : Int))) + 1) = ((2 * p + 1 : Nat) : Int) := by rw [wr (2 * (p : Int)) (by omega), wr (2 * (p : Int) + 1) (by omega)]; omega
      have e2 : wrap64 ((wrap64 (2 * (p : Int))) + 2) = ((2 * p + 2 : Nat) : Int) := by rw [wr (2 * (p : Int)) (by omega), wr (2 * (p : Int) + 2) (by omega)]; omega
      have hcn := cnt_in h
      rw [if_pos (by omega), if_pos (by omega), rd_nat]
      by_cases hk2 : l.getD p 0 < key
      · rw [if_pos hk2, e1, size_any (2 * p + 1) (by omega) k (by omega)]
        simp only [Option.bind_some]
        rw [wr (_ + 1) (by omega), wr _ (by omega), wr ((c : Int) + 1) (by omega), e2]
        have e3 : (r : Int) + ((cnt l.length (2 * p + 1) : Int) + 1) = ((r + (cnt l.length (2 * p + 1) + 1) : Nat) : Int) := by omega
        have e4 : (c : Int) + 1 = ((c + 1 : Nat) : Int) := by omega
        rw [e3, e4, ih k (2 * p + 2) _ (c + 1) (by omega) (by omega) (by omega) (by omega) (by omega), srch_lt h hk2]
        simp only
        congr 2
        · congr 1; omega
        · congr 1; omega
      · have e4 : (c : Int) + 1 = ((c + 1 : Nat) : Int) := by omega
        rw [if_neg hk2, e1, wr ((c : Int) + 1) (by omega), e4, ih k (2 * p + 1) _ (c + 1) (by omega) (by omega) (by omega) (by omega) (by omega), srch_ge h hk2]
        simp only
        congr 2
        congr 1; omega
    · rw [if_neg (by omega), srch_out h]
      rfl

theorem may_f (p many : Int) : PBfsSearches.bfs_may.f p many = some (decide (1 ≤ many ∧ many ≤ 65536 ∧ 0 ≤ p ∧ p < many)) := by
  unfold PBfsSearches.bfs_may.f
  by_cases h1 : many ≥ 1
  · by_cases h2 : many ≤ 65536
    · by_cases h3 : p ≥ 0
      · rw [if_pos h1, if_pos h2, if_pos h3]
        congr 1
        rw [decide_eq_decide]
        omega
      · rw [if_pos h1, if_pos h2, if_neg h3]
        congr 1
        rw [eq_comm, decide_eq_false_iff_not]
        omega
    · rw [if_pos h1, if_neg h2]
      congr 1
      rw [eq_comm, decide_eq_false_iff_not]
      omega
  · rw [if_neg h1]
    congr 1
    rw [eq_comm, decide_eq_false_iff_not]
    omega
theorem place_f {many : Nat} (hm : many ≤ 65536) : ∀ (d k n p : Nat), many - p ≤ d → many + d < k → n < cnt many p → PBfsSearches.bfs_Place.l0 k n many p = some ((((inOrd many p).getD n 0 : Nat) : Int), 0) := by
  intro d
  induction d with
  | zero =>
    intro k n p hd hk hn
    rw [cnt_out (by omega)] at hn
    omega
  | succ d ih =>
    intro k n p hd hk hn
    obtain ⟨k, rfl⟩ : ∃ j, k = j + 1 := ⟨k - 1, by omega⟩
    simp only [PBfsSearches.bfs_Place.l0]
    have h : p < many := by
      refine Nat.lt_of_not_le fun hc => ?_
      rw [cnt_out (by omega)] at hn
      omega
    have e1 : wrap64 ((wrap64 (2 * (p : Int))) + 1) = ((2 * p + 1 : Nat) : Int) := by rw [wr (2 * (p : Int)) (by omega), wr (2 * (p : Int) + 1) (by omega)]; omega
    have e2 : wrap64 ((wrap64 (2 * (p : Int))) + 2) = ((2 * p + 2 : Nat) : Int) := by rw [wr (2 * (p : Int)) (by omega), wr (2 * (p : Int) + 2) (by omega)]; omega
    have hcn := cnt_in h
    have b1 := cnt_le many (2 * p + 1)
    have b2 := cnt_le many p
    rw [e1, size_any (2 * p + 1) (by omega) k (by omega)]
    simp only [Option.bind_some]
    by_cases h1 : n < cnt many (2 * p + 1)
    · rw [if_pos (by omega), ih k n (2 * p + 1) (by omega) (by omega) h1, inOrd_in h]
      unfold cnt at h1
      rw [List.getD_eq_getElem?_getD, List.getD_eq_getElem?_getD, List.getElem?_append_left h1]
    · rw [if_neg (by omega)]
      by_cases h2 : n = cnt many (2 * p + 1)
      · rw [if_pos (by omega), inOrd_in h, h2]
        unfold cnt
        rw [List.getD_eq_getElem?_getD, List.getElem?_append_right (Nat.le_refl _)]
        simp
      · rw [if_neg (by omega), e2, wr ((cnt many (2 * p + 1) : Int) + 1) (by omega), wr _ (by omega)]
        have e3 : (n : Int) - ((cnt many (2 * p + 1) : Int) + 1) = ((n - (cnt many (2 * p + 1) + 1) : Nat) : Int) := by omega
        rw [e3, ih k _ (2 * p + 2) (by omega) (by omega) (by omega), inOrd_in h]
        have h3 : cnt many (2 * p + 1) < n := by omega
        unfold cnt at h3 ⊢
        obtain ⟨j, rfl⟩ : ∃ j, n = (inOrd many (2 * p + 1)).length + (j + 1) := ⟨n - (inOrd many (2 * p + 1)).length - 1, by omega⟩
        rw [List.getD_eq_getElem?_getD, List.getD_eq_getElem?_getD, List.getElem?_append_right (by omega), Nat.add_sub_cancel_left, List.getElem?_cons_succ]
        congr 5
        omega
end Go.Proofs.Ytmjfnifdgneooaa.B4
