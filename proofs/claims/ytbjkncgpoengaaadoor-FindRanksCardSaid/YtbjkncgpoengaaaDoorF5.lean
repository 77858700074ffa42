/- The document's search, plain: it tells what the search by halves tells. -/
import Derived.Test.YtbjkncgpoengaaaDoorF2
import Derived.Test.YtbjkncgpoengaaaDoorF4
namespace Go.Proofs.YtbjkncgpoengaaaDoor.F5
open Go.RowKit Go.Proofs.YtbjkncgpoengaaaDoorW.PrintWords Go.Proofs.YtbjkncgpoengaaaDoorW.PrintLast Go.Proofs.YtbjkncgpoengaaaDoorW.PrintMore G1 G0 Q1 G2 G3 G4 G5 G6 G7 G8 G9 G10 G11 F1 F2 S1 F4
set_option linter.unusedVariables false

theorem rd_slots {n : Nat} {g : Gap} {i : Nat} (hi : i < n) : rd_T60 (slots n g) (i : Int) = ⟨g.on i, g.xs.getD i 0⟩ := by
  unfold rd_T60
  rw [Int.toNat_natCast, slots_get n g hi]
theorem next_stop {n : Nat} {g : Gap} {hi : Nat} (hn : hi ≤ n) (hs : n ≤ 1000000) : ∀ (d i k : Nat), i + d = hi → d < k → (∀ j, i ≤ j → j < hi → g.on j = false) → punnetref10_Next.l0 k (slots n g) hi i = some (-1) := by
  intro d
  induction d with
  | zero =>
    intro i k h hk hf
    obtain ⟨k, rfl⟩ : ∃ j, k = j + 1 := ⟨k - 1, by omega⟩
    simp only [punnetref10_Next.l0]
    rw [if_neg (by omega)]
  | succ d ih =>
    intro i k h hk hf
    obtain ⟨k, rfl⟩ : ∃ j, k = j + 1 := ⟨k - 1, by omega⟩
    simp only [punnetref10_Next.l0]
    rw [if_pos (by omega), if_pos (by omega), if_pos (by rw [slots_length]; omega), rd_slots (by omega), hf i (by omega) (by omega), if_neg (by simp), wr _ (by omega)]
    exact ih (i + 1) k (by omega) (by omega) (fun j h1 h2 => hf j (by omega) h2)
theorem next_found {n : Nat} {g : Gap} {hi t : Nat} (hn : hi ≤ n) (hs : n ≤ 1000000) (ht : t < hi) (hon : g.on t = true) : ∀ (d i k : Nat), i + d = t → d < k → (∀ j, i ≤ j → j < t → g.on j = false) → punnetref10_Next.l0 k (slots n g) hi i = some (t : Int) := by
  intro d
  induction d with
  | zero =>
    intro i k h hk hf
    obtain ⟨k, rfl⟩ : ∃ j, k = j + 1 := ⟨k - 1, by omega⟩
    obtain rfl : i = t := by omega
    simp only [punnetref10_Next.l0]
    rw [if_pos (by omega), if_pos (by omega), if_pos (by rw [slots_length]; omega), rd_slots (by omega), hon, if_pos rfl]
  | succ d ih =>
    intro i k h hk hf
    obtain ⟨k, rfl⟩ : ∃ j, k = j + 1 := ⟨k - 1, by omega⟩
    simp only [punnetref10_Next.l0]
    rw [if_pos (by omega), if_pos (by omega), if_pos (by rw [slots_length]; omega), rd_slots (by omega), hf i (by omega) (by omega), if_neg (by simp), wr _ (by omega)]
    exact ih (i + 1) k (by omega) (by omega) (fun j h1 h2 => hf j (by omega) h2)
def tst (eq : Bool) (key : Int) : Int → Bool := if eq then le_ key else lt_ key
theorem tl1 {key x : Int} (h : tst false key x = true) : x < key := by simpa [tst, lt_] using h
theorem tl0 {key x : Int} (h : tst false key x = false) : ¬ x < key := by simpa [tst, lt_] using h
theorem te1 {key x : Int} (h : tst true key x = true) : x ≤ key := by simpa [tst, le_] using h
theorem te0 {key x : Int} (h : tst true key x = false) : ¬ x ≤ key := by simpa [tst, le_] using h
set_option maxHeartbeats 1000000 in
theorem search_half {n : Nat} {g : Gap} (hs : n ≤ 100000) (key : Int) (eq : Bool) : ∀ (K lo hi : Nat) (r : Int) (c k : Nat), hi ≤ n → hi - lo < K → K + n + 1 ≤ k → c + (hi - lo) ≤ n →
    punnetref10_Search.l0 k (slots n g) key eq lo hi r c = some ((half g.on g.xs n (tst eq key) K lo hi r c).1, ((half g.on g.xs n (tst eq key) K lo hi r c).2 : Int)) := by
  intro K
  induction K with
  | zero => intro lo hi r c k h1 h2; omega
  | succ K ih =>
    intro lo hi r c k h1 h2 h3 h4
    obtain ⟨k, rfl⟩ : ∃ j, k = j + 1 := ⟨k - 1, by omega⟩
    by_cases hlo : hi ≤ lo
    · rw [half_done hlo h2]
      simp only [punnetref10_Search.l0]
      rw [if_neg (by omega)]
    · have hlt : lo < hi := by omega
      obtain ⟨m, hm⟩ : ∃ m, m = lo + (hi - lo) / 2 := ⟨_, rfl⟩
      have em : Aside0 (wrap64 (Int.tdiv (wrap64 ((lo : Int) + (hi : Int))) 2) = (m : Int)) := ⟨by
        rw [wr ((lo : Int) + (hi : Int)) (by omega), Int.tdiv_eq_ediv_of_nonneg (by omega), wr _ (by omega)]
        omega⟩
      simp only [punnetref10_Search.l0]
      rw [if_pos (by omega), em.out]
      have hmn : m < hi := by omega
      rcases next_cases g.on n m (by omega) with ⟨e, hf⟩ | ⟨t, e, b1, b2, b3, b4⟩
      · rw [show punnetref10_Next.f k (slots n g) m hi = some (-1) from next_stop h1 (by omega) (hi - m) m k (by omega) (by omega) (fun j h5 h6 => hf j h5 (by omega))]
        simp only [Option.bind_some]
        rw [if_pos (by decide), half_none (p := -1) hlt h2 (by rw [← hm]; exact e) (.inl (by decide)), ← hm]
        exact ih lo m r c k (by omega) (by omega) (by omega) (by omega)
      · by_cases ht : t < hi
        · rw [show punnetref10_Next.f k (slots n g) m hi = some (t : Int) from next_found h1 (by omega) ht b3 (t - m) m k (by omega) (by omega) b4]
          simp only [Option.bind_some]
          rw [if_neg (by omega), if_pos (by omega), if_pos (by rw [slots_length]; omega), rd_slots (by omega)]
          have en : nextI g.on n ((lo + (hi - lo) / 2 : Nat) : Int) = t := by rw [← hm]; exact e
          have ec : Aside0 (wrap64 ((c : Int) + 1) = ((c + 1 : Nat) : Int)) := ⟨by rw [wr _ (by omega)]; omega⟩
          have et : Aside0 (wrap64 ((t : Int) + 1) = ((t + 1 : Nat) : Int)) := ⟨by rw [wr _ (by omega)]; omega⟩
          rw [ec.out, et.out]
          dsimp only
          cases hq : tst eq key (g.xs.getD t 0) with
          | true =>
            rw [half_yes hlt h2 en ht hq]
            have fin := ih (t + 1) hi r (c + 1) k (by omega) (by omega) (by omega) (by omega)
            cases eq with
            | false =>
              have h5 := tl1 hq
              rw [if_pos h5]
              exact fin
            | true =>
              have h5 := te1 hq
              by_cases h6 : g.xs.getD t 0 < key
              · rw [if_pos h6]; exact fin
              · rw [if_neg h6, if_pos rfl, if_pos (by omega)]; exact fin
          | false =>
            rw [half_no hlt h2 en ht hq, ← hm]
            have fin := ih lo m t (c + 1) k (by omega) (by omega) (by omega) (by omega)
            cases eq with
            | false =>
              have h5 := tl0 hq
              rw [if_neg h5, if_neg (by decide)]
              exact fin
            | true =>
              have h5 := te0 hq
              rw [if_neg (by omega), if_pos rfl, if_neg (by omega)]
              exact fin
        · rw [show punnetref10_Next.f k (slots n g) m hi = some (-1) from next_stop h1 (by omega) (hi - m) m k (by omega) (by omega) (fun j h5 h6 => b4 j h5 (by omega))]
          simp only [Option.bind_some]
          rw [if_pos (by decide), half_none (p := (t : Int)) hlt h2 (by rw [← hm]; exact e) (.inr (by omega)), ← hm]
          exact ih lo m r c k (by omega) (by omega) (by omega) (by omega)
theorem search_f {n : Nat} {g : Gap} (hs : n ≤ 100000) (key : Int) (eq : Bool) (k : Nat) (hk : 2 * n + 2 ≤ k) : punnetref10_Search.f k (slots n g) key eq = some ((srch g.on g.xs n (tst eq key)).1, ((srch g.on g.xs n (tst eq key)).2 : Int)) := by
  unfold punnetref10_Search.f
  rw [slots_length]
  exact search_half hs key eq (n + 1) 0 n (-1) 0 k (Nat.le_refl _) (by omega) (by omega) (by omega)
theorem exact_f {n : Nat} {g : Gap} (hs : n ≤ 100000) (key : Int) : ∃ k, punnetref10_Exact.f k (slots n g) key = some ((exaR g.on g.xs n key).1, ((exaR g.on g.xs n key).2 : Int)) := by
  refine ⟨2 * n + 2, ?_⟩
  unfold punnetref10_Exact.f
  rw [search_f hs key false _ (Nat.le_refl _)]
  simp only [Option.bind_some]
  have hle := srch_le g.on g.xs n (tst false key)
  rcases srch_at g.on g.xs n (tst false key) with e | ⟨t, e, ht, hf⟩
  · rw [e, if_pos (by decide)]
    unfold exaR
    rw [show lt_ key = tst false key from rfl, e]
    simp
  · have hE : exaR g.on g.xs n key = (if g.xs.getD t 0 = key then (t : Int) else -1, (srch g.on g.xs n (tst false key)).2 + 1) := by
      unfold exaR
      rw [show lt_ key = tst false key from rfl, e, if_neg (by omega), Int.toNat_natCast]
    rw [e, if_neg (by omega), if_pos (by omega), if_pos (by rw [slots_length]; omega), rd_slots ht, hE, wr _ (by omega)]
    simp only
    split <;> simp
theorem bef_l {n : Nat} {g : Gap} (hs : n ≤ 100000) (x7 : Int) {m : Nat} (hm : m ≤ n) : ∀ (d i k : Nat), i + d = m → d < k → punnetref10_Before.l0 k (slots n g) m x7 (lastF g.on i) i = some (lastF g.on m, x7) := by
  intro d
  induction d with
  | zero =>
    intro i k h hk
    obtain ⟨k, rfl⟩ : ∃ j, k = j + 1 := ⟨k - 1, by omega⟩
    obtain rfl : i = m := by omega
    simp only [punnetref10_Before.l0]
    rw [if_neg (by omega)]
  | succ d ih =>
    intro i k h hk
    obtain ⟨k, rfl⟩ : ∃ j, k = j + 1 := ⟨k - 1, by omega⟩
    simp only [punnetref10_Before.l0]
    rw [if_pos (by omega), if_pos (by omega), if_pos (by rw [slots_length]; omega), rd_slots (by omega), wr _ (by omega)]
    have := ih (i + 1) k (by omega) (by omega)
    cases hf : g.on i with
    | true =>
      rw [if_pos rfl]
      rw [show lastF g.on (i + 1) = (i : Int) by simp [lastF, hf]] at this
      exact this
    | false =>
      rw [if_neg (by simp)]
      rw [show lastF g.on (i + 1) = lastF g.on i by simp [lastF, hf]] at this
      exact this
theorem before_f {n : Nat} {g : Gap} (hs : n ≤ 100000) (h1 : 1 ≤ n) (key : Int) : ∃ k, punnetref10_Before.f k (slots n g) key = some ((befR g.on g.xs n key).1, ((befR g.on g.xs n key).2 : Int)) := by
  refine ⟨2 * n + 2, ?_⟩
  unfold punnetref10_Before.f
  rw [search_f hs key false _ (Nat.le_refl _)]
  simp only [Option.bind_some]
  unfold befR
  rw [show lt_ key = tst false key from rfl]
  rcases srch_at g.on g.xs n (tst false key) with e | ⟨t, e, ht, hf⟩
  · rw [e, if_pos (by decide), if_pos (by decide), slots_length]
    simp only [punnetref10_Before.j0]
    have := bef_l (g := g) hs ((srch g.on g.xs n (tst false key)).2 : Int) (Nat.le_refl n) n 0 (2 * n + 1) (by omega) (by omega)
    rw [show prevI g.on n ((n : Int) - 1) = lastF g.on n by unfold prevI; rw [show (min ((n : Int) - 1 + 1) (n : Int)).toNat = n by omega]]
    exact this
  · rw [e, if_neg (by omega), if_neg (by omega)]
    simp only [punnetref10_Before.j0]
    have := bef_l (g := g) hs ((srch g.on g.xs n (tst false key)).2 : Int) (show t ≤ n by omega) t 0 (2 * n + 1) (by omega) (by omega)
    rw [show prevI g.on n ((t : Int) - 1) = lastF g.on t by unfold prevI; rw [show (min ((t : Int) - 1 + 1) (n : Int)).toNat = t by omega]]
    exact this
end Go.Proofs.YtbjkncgpoengaaaDoor.F5
