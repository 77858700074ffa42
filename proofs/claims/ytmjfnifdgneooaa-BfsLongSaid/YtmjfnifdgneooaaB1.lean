/- Plain facts on lists of whole numbers: keys that rise, ranks, the search by halves; no program in sight. -/
import Derived.Test.YtmjfnifdgneooaaPBisectRanksx1
import Derived.Test.YtmjfnifdgneooaaPBisectSpansx1
namespace Go.Proofs.Ytmjfnifdgneooaa.B1
open Go.RowKit Go.Proofs.YtmjfnifdgneooaaW.PrintWords

/-- The search by halves: where it ends, and how many were compared. -/
def halves : Nat → List Int → Int → Nat → Nat → Nat → Nat × Nat
  | 0, _, _, lo, _, c => (lo, c)
  | k + 1, l, key, lo, hi, c =>
    if lo < hi then
      if rd l ((lo + (hi - lo) / 2 : Nat) : Int) < key then halves k l key (lo + (hi - lo) / 2 + 1) hi (c + 1)
      else halves k l key lo (lo + (hi - lo) / 2) (c + 1)
    else (lo, c)
theorem halves_end (k : Nat) {l : List Int} {key : Int} {a b c : Nat} (h : ¬ a < b) : halves k l key a b c = (a, c) := by
  cases k with
  | zero => rfl
  | succ k => simp only [halves]; rw [if_neg h]

/-- Keys rise. -/
def risingB : List Int → Bool
  | [] => true
  | [_] => true
  | x :: y :: r => decide (x < y) && risingB (y :: r)
/-- How many are less. -/
def less (l : List Int) (key : Int) : Nat := l.countP (· < key)

theorem rd_nat (l : List Int) (i : Nat) : rd l (i : Int) = l.getD i 0 := rfl
theorem rising_iff (l : List Int) : risingB l = true ↔ ∀ i, i + 1 < l.length → l.getD i 0 < l.getD (i + 1) 0 := by
  induction l with
  | nil => simp [risingB]
  | cons x r ih =>
    cases r with
    | nil => simp [risingB]
    | cons y r =>
      simp only [risingB, Bool.and_eq_true, decide_eq_true_eq, ih]
      constructor
      · rintro ⟨h0, h⟩ i hi
        cases i with
        | zero => simpa using h0
        | succ i => simpa using h i (by simpa using hi)
      · intro h
        exact ⟨by simpa using h 0 (by simp), fun i hi => by simpa using h (i + 1) (by simpa using hi)⟩
theorem rising_lt {l : List Int} (h : risingB l = true) {i j : Nat} (hij : i < j) (hj : j < l.length) : l.getD i 0 < l.getD j 0 := by
  obtain ⟨d, rfl⟩ : ∃ d, j = i + 1 + d := ⟨j - i - 1, by omega⟩
  clear hij
  induction d with
  | zero => exact (rising_iff l).1 h i (by omega)
  | succ d ih => exact Int.lt_trans (ih (by omega)) ((rising_iff l).1 h _ (by omega))

theorem rising_f (l : List Int) (hl : l.length ≤ 1000000000000000000) : ∃ k, PBisectRanks.bisect_Rising.f k l = some (risingB l) := by
  have key : ∀ (d i k : Nat), 1 ≤ i → (l.length ≤ i + d) → d < k → (∀ j, j + 1 < i → j + 1 < l.length → l.getD j 0 < l.getD (j + 1) 0) → PBisectRanks.bisect_Rising.l0 k l i = some (risingB l) := by
    intro d
    induction d with
    | zero =>
      intro i k h1 hd hk hall
      obtain ⟨k, rfl⟩ : ∃ m, k = m + 1 := ⟨k - 1, by omega⟩
      simp only [PBisectRanks.bisect_Rising.l0]
      rw [if_neg (by omega)]
      congr 1
      exact ((rising_iff l).2 fun j hj => hall j (by omega) hj).symm
    | succ d ih =>
      intro i k h1 hd hk hall
      obtain ⟨k, rfl⟩ : ∃ m, k = m + 1 := ⟨k - 1, by omega⟩
      simp only [PBisectRanks.bisect_Rising.l0]
      by_cases hi : i < l.length
      · have e1 : wrap64 ((i : Int) - 1) = ((i - 1 : Nat) : Int) := by unfold wrap64; omega
        have e2 : wrap64 ((i : Int) + 1) = ((i + 1 : Nat) : Int) := by unfold wrap64; omega
        rw [if_pos (by omega), if_pos (by omega), e1, if_pos (by omega), if_pos (by omega), e2, rd_nat, rd_nat]
        by_cases hr : l.getD i 0 ≤ l.getD (i - 1) 0
        · rw [if_pos hr]
          congr 1
          rw [eq_comm, Bool.eq_false_iff]
          intro hf
          have := (rising_iff l).1 hf (i - 1) (by omega)
          rw [show i - 1 + 1 = i by omega] at this
          omega
        · rw [if_neg hr]
          refine ih (i + 1) k (by omega) (by omega) (by omega) fun j hj hjl => ?_
          by_cases e : j + 1 = i
          · subst e
            simp only [Nat.add_sub_cancel] at hr
            omega
          · exact hall j (by omega) hjl
      · rw [if_neg (by omega)]
        congr 1
        exact ((rising_iff l).2 fun j hj => hall j (by omega) hj).symm
  exact ⟨l.length + 1, key l.length 1 _ (by omega) (by omega) (by omega) (fun j hj => by omega)⟩

theorem refRising_f (l : List Int) (hl : l.length ≤ 1000000) : ∃ k, PBisectRanks.punnetref17_Rising.f k l = some (risingB l) := by
  have inner : ∀ (d i j k : Nat), j + d = i → i < l.length → d < k → (∀ m, m < j → l.getD m 0 < l.getD i 0) → (∀ r, (∀ m, m < i → l.getD m 0 < l.getD i 0) → (∀ k', k ≤ k' + d + 1 → PBisectRanks.punnetref17_Rising.l0 k' l ((i + 1 : Nat) : Int) = some r) → PBisectRanks.punnetref17_Rising.l1 k l i j = some r) ∧ ((¬ ∀ m, m < i → l.getD m 0 < l.getD i 0) → PBisectRanks.punnetref17_Rising.l1 k l i j = some false) := by
    intro d
    induction d with
    | zero =>
      intro i j k hd hi hk hall
      obtain ⟨k, rfl⟩ : ∃ m, k = m + 1 := ⟨k - 1, by omega⟩
      obtain rfl : j = i := by omega
      refine ⟨fun r _ hr => ?_, fun hn => absurd (fun m hm => hall m hm) hn⟩
      simp only [PBisectRanks.punnetref17_Rising.l1]
      have e2 : wrap64 ((j : Int) + 1) = ((j + 1 : Nat) : Int) := by unfold wrap64; omega
      rw [if_neg (by omega), e2]
      exact hr k (by omega)
    | succ d ih =>
      intro i j k hd hi hk hall
      obtain ⟨k, rfl⟩ : ∃ m, k = m + 1 := ⟨k - 1, by omega⟩
      have e2 : wrap64 ((j : Int) + 1) = ((j + 1 : Nat) : Int) := by unfold wrap64; omega
      simp only [PBisectRanks.punnetref17_Rising.l1]
      rw [if_pos (by omega), if_pos (by omega), if_pos (by omega), if_pos (by omega), if_pos (by omega), e2, rd_nat, rd_nat]
      by_cases hg : l.getD j 0 ≥ l.getD i 0
      · rw [if_pos hg]
        exact ⟨fun r ha _ => absurd (ha j (by omega)) (by omega), fun _ => rfl⟩
      · rw [if_neg hg]
        have hall' : ∀ m, m < j + 1 → l.getD m 0 < l.getD i 0 := fun m hm => by
          by_cases e : m = j
          · subst e; omega
          · exact hall m (by omega)
        obtain ⟨h1, h2⟩ := ih i (j + 1) k (by omega) hi (by omega) hall'
        exact ⟨fun r ha hr => h1 r ha (fun k' hk' => hr k' (by omega)), h2⟩
  have outer : ∀ (d i k : Nat), l.length ≤ i + d → d * (l.length + 2) < k → (∀ j, j + 1 < i → j + 1 < l.length → l.getD j 0 < l.getD (j + 1) 0) → PBisectRanks.punnetref17_Rising.l0 k l i = some (risingB l) := by
    intro d
    induction d with
    | zero =>
      intro i k hd hk hall
      obtain ⟨k, rfl⟩ : ∃ m, k = m + 1 := ⟨k - 1, by omega⟩
      simp only [PBisectRanks.punnetref17_Rising.l0]
      rw [if_neg (by omega)]
      congr 1
      exact ((rising_iff l).2 fun j hj => hall j (by omega) hj).symm
    | succ d ih =>
      intro i k hd hk hall
      have hmul : (d + 1) * (l.length + 2) = d * (l.length + 2) + (l.length + 2) := by rw [Nat.add_mul, Nat.one_mul]
      obtain ⟨k, rfl⟩ : ∃ m, k = m + 1 := ⟨k - 1, by omega⟩
      simp only [PBisectRanks.punnetref17_Rising.l0]
      by_cases hi : i < l.length
      · rw [if_pos (by omega)]
        obtain ⟨h1, h2⟩ := inner i i 0 k (by omega) hi (by omega) (fun m hm => by omega)
        by_cases hc : ∀ m, m < i → l.getD m 0 < l.getD i 0
        · refine h1 _ hc fun k' hk' => ih (i + 1) k' (by omega) (by omega) fun j hj hjl => ?_
          by_cases e : j + 1 = i
          · have := hc j (by omega)
            rw [e]
            exact this
          · exact hall j (by omega) hjl
        · refine (h2 hc).trans ?_
          congr 1
          rw [eq_comm, Bool.eq_false_iff]
          exact fun hf => hc fun m hm => rising_lt hf hm hi
      · rw [if_neg (by omega)]
        congr 1
        exact ((rising_iff l).2 fun j hj => hall j (by omega) hj).symm
  exact ⟨l.length * (l.length + 2) + 1, outer l.length 0 _ (by omega) (by omega) (fun j hj => by omega)⟩

theorem less_take (l : List Int) (key : Int) (i : Nat) (hi : i < l.length) : less (l.take (i + 1)) key = less (l.take i) key + (if l.getD i 0 < key then 1 else 0) := by
  unfold less
  rw [List.take_succ_eq_append_getElem hi, List.countP_append]
  simp [List.countP_cons, hi]

theorem refRank_f (l : List Int) (key : Int) (hl : l.length ≤ 1000000000000000000) : ∃ k, PBisectRanks.punnetref17_Rank.f k l key = some (less l key : Int) := by
  have go : ∀ (d i k : Nat), i + d = l.length → d < k → PBisectRanks.punnetref17_Rank.l0 k l key (less (l.take i) key : Nat) i = some (less l key : Int) := by
    intro d
    induction d with
    | zero =>
      intro i k hd hk
      obtain ⟨k, rfl⟩ : ∃ m, k = m + 1 := ⟨k - 1, by omega⟩
      simp only [PBisectRanks.punnetref17_Rank.l0]
      rw [if_neg (by omega), List.take_of_length_le (by omega)]
    | succ d ih =>
      intro i k hd hk
      obtain ⟨k, rfl⟩ : ∃ m, k = m + 1 := ⟨k - 1, by omega⟩
      have hb : less (l.take i) key ≤ i := by
        have := List.countP_le_length (p := (fun x : Int => decide (x < key))) (l := l.take i)
        rw [List.length_take] at this
        unfold less
        omega
      have h := ih (i + 1) k (by omega) (by omega)
      rw [less_take l key i (by omega)] at h
      simp only [PBisectRanks.punnetref17_Rank.l0]
      have e2 : wrap64 ((i : Int) + 1) = ((i + 1 : Nat) : Int) := by unfold wrap64; omega
      rw [if_pos (by omega), if_pos (by omega), e2, rd_nat]
      by_cases hc : l.getD i 0 < key
      · rw [if_pos hc] at h ⊢
        have e3 : wrap64 ((less (l.take i) key : Int) + 1) = ((less (l.take i) key + 1 : Nat) : Int) := by unfold wrap64; omega
        rw [e3]
        exact h
      · rw [if_neg hc] at h ⊢
        exact h
  exact ⟨l.length + 1, by simpa [PBisectRanks.punnetref17_Rank.f, less] using go l.length 0 (l.length + 1) (by omega) (by omega)⟩

theorem halves_count (l : List Int) (key : Int) : ∀ (k a b c : Nat), (halves k l key a b c).2 = (halves k l key a b 0).2 + c := by
  intro k
  induction k with
  | zero => intro a b c; simp [halves]
  | succ k ih =>
    intro a b c
    simp only [halves]
    split
    · split
      · rw [ih _ _ (c + 1), ih _ _ (0 + 1)]; omega
      · rw [ih _ _ (c + 1), ih _ _ (0 + 1)]; omega
    · simp
theorem halves_place (l : List Int) (key : Int) : ∀ (k a b c c' : Nat), (halves k l key a b c).1 = (halves k l key a b c').1 := by
  intro k
  induction k with
  | zero => intro a b c c'; rfl
  | succ k ih =>
    intro a b c c'
    simp only [halves]
    split
    · split
      · exact ih _ _ _ _
      · exact ih _ _ _ _
    · rfl
theorem halves_le (l : List Int) (key : Int) : ∀ (k a b : Nat), a ≤ b → a ≤ (halves k l key a b 0).1 ∧ (halves k l key a b 0).1 ≤ b ∧ (halves k l key a b 0).2 ≤ b - a := by
  intro k
  induction k with
  | zero => intro a b h; simp [halves, h]
  | succ k ih =>
    intro a b h
    simp only [halves]
    split
    · split
      · have := ih (a + (b - a) / 2 + 1) b (by omega)
        rw [halves_count, halves_place l key k _ _ _ 0]
        omega
      · have := ih a (a + (b - a) / 2) (by omega)
        rw [halves_count, halves_place l key k _ _ _ 0]
        omega
    · simp; omega

theorem compared_f (l : List Int) (key : Int) (hl : l.length ≤ 1000000000) : ∀ (k a b : Nat), a ≤ b → b ≤ l.length → b - a < k → PBisectRanks.punnetref17_Compared.f k l key a b = some ((halves (k - 1) l key a b 0).2 : Int) := by
  intro k
  induction k with
  | zero => intro a b h h2 h3; omega
  | succ k ih =>
    intro a b h h2 h3
    simp only [PBisectRanks.punnetref17_Compared.f]
    by_cases hab : a < b
    · obtain ⟨k, rfl⟩ : ∃ m, k = m + 1 := ⟨k - 1, by omega⟩
      have em : wrap64 (Int.tdiv (wrap64 ((a : Int) + b)) 2) = ((a + (b - a) / 2 : Nat) : Int) := by
        have : wrap64 ((a : Int) + b) = ((a + b : Nat) : Int) := by unfold wrap64; omega
        rw [this, show Int.tdiv ((a + b : Nat) : Int) 2 = (((a + b) / 2 : Nat) : Int) from rfl]
        unfold wrap64; omega
      rw [if_neg (by omega), em, if_pos (by omega), if_pos (by omega), rd_nat]
      simp only [Nat.add_sub_cancel, halves]
      rw [if_pos hab, rd_nat]
      by_cases hc : l.getD (a + (b - a) / 2) 0 < key
      · rw [if_pos hc, if_pos hc]
        have e2 : wrap64 (((a + (b - a) / 2 : Nat) : Int) + 1) = ((a + (b - a) / 2 + 1 : Nat) : Int) := by unfold wrap64; omega
        have hle := halves_le l key k (a + (b - a) / 2 + 1) b (by omega)
        rw [e2, ih _ _ (by omega) h2 (by omega)]
        simp only [Option.bind_some, Nat.add_sub_cancel]
        rw [halves_count l key k _ _ (0 + 1)]
        congr 1
        unfold wrap64; omega
      · rw [if_neg hc, if_neg hc]
        have hle := halves_le l key k a (a + (b - a) / 2) (by omega)
        rw [ih _ _ (by omega) (by omega) (by omega)]
        simp only [Option.bind_some, Nat.add_sub_cancel]
        rw [halves_count l key k _ _ (0 + 1)]
        congr 1
        unfold wrap64; omega
    · rw [if_pos (by omega), halves_end _ hab]; rfl

theorem less_mid {l : List Int} {key : Int} {n : Nat} (hn : n ≤ l.length) (h1 : ∀ i, i < n → l.getD i 0 < key) (h2 : ∀ i, n ≤ i → i < l.length → ¬ l.getD i 0 < key) : less l key = n := by
  have e : less l key = less (l.take n) key + less (l.drop n) key := by unfold less; rw [← List.countP_append, List.take_append_drop]
  have e1 : less (l.take n) key = n := by
    unfold less
    rw [List.countP_eq_length.2, List.length_take]
    · omega
    · intro x hx
      obtain ⟨i, hi, rfl⟩ := List.mem_iff_getElem.1 hx
      rw [List.length_take] at hi
      have := h1 i (by omega)
      rw [List.getElem_take]
      simpa [List.getD_eq_getElem?_getD, show i < l.length by omega] using this
  have e2 : less (l.drop n) key = 0 := by
    unfold less
    rw [List.countP_eq_zero]
    intro x hx
    obtain ⟨i, hi, rfl⟩ := List.mem_iff_getElem.1 hx
    rw [List.length_drop] at hi
    have := h2 (n + i) (by omega) (by omega)
    rw [List.getElem_drop]
    simpa [List.getD_eq_getElem?_getD, show n + i < l.length by omega] using this
  omega

theorem halves_rank {l : List Int} (key : Int) (hr : risingB l = true) : ∀ (k a b c : Nat), a ≤ b → b ≤ l.length → b - a ≤ k → (∀ i, i < a → l.getD i 0 < key) → (∀ i, b ≤ i → i < l.length → ¬ l.getD i 0 < key) → (halves k l key a b c).1 = less l key := by
  intro k
  induction k with
  | zero =>
    intro a b c h h2 h3 ha hb
    exact (less_mid (by omega) ha (fun i hi => hb i (by omega))).symm
  | succ k ih =>
    intro a b c h h2 h3 ha hb
    by_cases hab : a < b
    · simp only [halves]
      rw [if_pos hab, rd_nat]
      by_cases hc : l.getD (a + (b - a) / 2) 0 < key
      · rw [if_pos hc]
        refine ih _ _ _ (by omega) h2 (by omega) (fun i hi => ?_) hb
        by_cases e : i = a + (b - a) / 2
        · rw [e]; exact hc
        · exact Int.lt_trans (rising_lt hr (show i < a + (b - a) / 2 by omega) (by omega)) hc
      · rw [if_neg hc]
        refine ih _ _ _ (by omega) (by omega) (by omega) ha (fun i hi hil => ?_)
        by_cases e : i = a + (b - a) / 2
        · rw [e]; exact hc
        · have := rising_lt hr (show a + (b - a) / 2 < i by omega) hil
          omega
    · rw [halves_end _ hab]
      exact (less_mid (by omega) ha (fun i hi => hb i (by omega))).symm
/-- The search's answers. -/
def rankN (l : List Int) (key : Int) : Nat := (halves l.length l key 0 l.length 0).1
def comparedN (l : List Int) (key : Int) : Nat := (halves l.length l key 0 l.length 0).2
theorem rankN_less {l : List Int} (key : Int) (hr : risingB l = true) : rankN l key = less l key := halves_rank key hr _ _ _ _ (by omega) (by omega) (by omega) (fun i hi => by omega) (fun i hi hi2 => by omega)
theorem rankN_le (l : List Int) (key : Int) : rankN l key ≤ l.length := (halves_le l key _ _ _ (by omega)).2.1
theorem comparedN_le (l : List Int) (key : Int) : comparedN l key ≤ l.length := by have := (halves_le l key l.length 0 l.length (by omega)).2.2; unfold comparedN; omega
theorem refCompared_f (l : List Int) (key : Int) (hl : l.length ≤ 1000000000) : ∃ k, PBisectRanks.punnetref17_Compared.f k l key 0 l.length = some (comparedN l key : Int) :=
  ⟨l.length + 1, compared_f l key hl _ 0 l.length (by omega) (by omega) (by omega)⟩
end Go.Proofs.Ytmjfnifdgneooaa.B1
