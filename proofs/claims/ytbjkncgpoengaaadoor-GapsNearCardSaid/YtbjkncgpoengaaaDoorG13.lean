/- Plain facts: the next and the last occupied slot, and how many there are between two, as a list of places tells them. No program in sight. -/
import Derived.Test.YtbjkncgpoengaaaDoorG9
namespace Go.Proofs.YtbjkncgpoengaaaDoor.G13
open Go.RowKit Go.Proofs.YtbjkncgpoengaaaDoorW.PrintWords G1 G0 G3 G4 G8 G9
set_option linter.unusedVariables false

/-- What is found so far. -/
structure Sc where
  nx : Int
  pv : Int
  mn : Nat
def scStep (a b : Int) (s : Sc) (x : Int) : Sc := ⟨if a ≤ x ∧ s.nx < 0 then x else s.nx, if x ≤ a then x else s.pv, if a ≤ x ∧ x < b then s.mn + 1 else s.mn⟩
def sc (a b : Int) (l : List Int) : Sc := l.foldl (scStep a b) ⟨-1, -1, 0⟩
theorem sc_snoc (a b : Int) (l : List Int) (i : Nat) (hi : i < l.length) : sc a b (l.take (i + 1)) = scStep a b (sc a b (l.take i)) (l.getD i 0) := by
  unfold sc
  rw [List.take_succ_eq_append_getElem hi, List.foldl_append]
  simp [List.getD_eq_getElem?_getD, hi]
theorem sc_mn (a b : Int) (l : List Int) : ∀ s : Sc, (l.foldl (scStep a b) s).mn ≤ s.mn + l.length := by
  induction l with
  | nil => intro s; exact Nat.le_refl _
  | cons x l ih =>
    intro s
    have := ih (scStep a b s x)
    simp only [List.foldl_cons, List.length_cons]
    have h2 : (scStep a b s x).mn ≤ s.mn + 1 := by simp only [scStep]; split <;> omega
    omega
theorem keys_succ (f : Nat → Bool) (xs : List Int) (k : Nat) : keys (ons f xs (k + 1)) = keys (ons f xs k) ++ if f k then [(k : Int)] else [] := by
  rw [ons_succ]
  unfold keys
  rw [List.map_append]
  split <;> rfl
/-- What holds behind the slots up to one. -/
structure ScI (f : Nat → Bool) (a b : Int) (k : Nat) (s : Sc) : Prop where
  nx : (s.nx = -1 ∧ ∀ j : Nat, j < k → a ≤ j → f j = false) ∨ ∃ t : Nat, s.nx = t ∧ t < k ∧ a ≤ t ∧ f t = true ∧ ∀ j : Nat, j < t → a ≤ j → f j = false
  pv : (s.pv = -1 ∧ ∀ j : Nat, j < k → (j : Int) ≤ a → f j = false) ∨ ∃ t : Nat, s.pv = t ∧ t < k ∧ (t : Int) ≤ a ∧ f t = true ∧ ∀ j : Nat, t < j → j < k → (j : Int) ≤ a → f j = false
  mn : 0 ≤ a → a ≤ b → s.mn + cntF f (min k a.toNat) = cntF f (min k b.toNat)
theorem sc_inv (f : Nat → Bool) (xs : List Int) (a b : Int) : ∀ k, ScI f a b k (sc a b (keys (ons f xs k))) := by
  intro k
  induction k with
  | zero => exact ⟨.inl ⟨rfl, fun j h => by omega⟩, .inl ⟨rfl, fun j h => by omega⟩, fun _ _ => rfl⟩
  | succ k ih =>
    rw [keys_succ]
    by_cases hf : f k = true
    · rw [if_pos hf]
      unfold sc at ih ⊢
      rw [List.foldl_append]
      simp only [List.foldl_cons, List.foldl_nil]
      generalize (keys (ons f xs k)).foldl (scStep a b) ⟨-1, -1, 0⟩ = s at ih
      refine ⟨?_, ?_, fun h0 h1 => ?_⟩
      · simp only [scStep]
        rcases ih.nx with ⟨e, h⟩ | ⟨t, e, h1, h2, h3, h4⟩
        · by_cases hk : a ≤ (k : Int)
          · rw [if_pos ⟨hk, by omega⟩]
            exact .inr ⟨k, rfl, by omega, hk, hf, fun j hj ha => h j (by omega) ha⟩
          · rw [if_neg (fun c => hk c.1)]
            exact .inl ⟨e, fun j hj ha => h j (by omega) ha⟩
        · rw [if_neg (fun c => by have := c.2; omega)]
          exact .inr ⟨t, e, by omega, h2, h3, h4⟩
      · simp only [scStep]
        by_cases hk : (k : Int) ≤ a
        · rw [if_pos hk]
          exact .inr ⟨k, rfl, by omega, hk, hf, fun j hj hj2 => by omega⟩
        · rw [if_neg hk]
          rcases ih.pv with ⟨e, h⟩ | ⟨t, e, h1, h2, h3, h4⟩
          · exact .inl ⟨e, fun j hj ha => h j (by omega) ha⟩
          · exact .inr ⟨t, e, by omega, h2, h3, fun j hj hj2 ha => h4 j hj (by omega) ha⟩
      · have hm := ih.mn h0 h1
        simp only [scStep]
        by_cases hb : (k : Int) < b
        · by_cases ha : a ≤ (k : Int)
          · rw [if_pos ⟨ha, hb⟩, show min (k + 1) a.toNat = min k a.toNat by omega, show min (k + 1) b.toNat = k + 1 by omega]
            rw [show min k b.toNat = k by omega] at hm
            simp only [cntF]
            rw [if_pos hf]
            omega
          · rw [if_neg (fun c => ha c.1), show min (k + 1) a.toNat = k + 1 by omega, show min (k + 1) b.toNat = k + 1 by omega]
            rw [show min k a.toNat = k by omega, show min k b.toNat = k by omega] at hm
            omega
        · rw [if_neg (fun c => hb c.2), show min (k + 1) a.toNat = min k a.toNat by omega, show min (k + 1) b.toNat = min k b.toNat by omega]
          exact hm
    · have hf2 : f k = false := by simpa using hf
      rw [if_neg hf, List.append_nil]
      refine ⟨?_, ?_, fun h0 h1 => ?_⟩
      · rcases ih.nx with ⟨e, h⟩ | ⟨t, e, h1, h2, h3, h4⟩
        · exact .inl ⟨e, fun j hj ha => by
            by_cases ej : j = k
            · rw [ej]; exact hf2
            · exact h j (by omega) ha⟩
        · exact .inr ⟨t, e, by omega, h2, h3, h4⟩
      · rcases ih.pv with ⟨e, h⟩ | ⟨t, e, h1, h2, h3, h4⟩
        · exact .inl ⟨e, fun j hj ha => by
            by_cases ej : j = k
            · rw [ej]; exact hf2
            · exact h j (by omega) ha⟩
        · exact .inr ⟨t, e, by omega, h2, h3, fun j hj hj2 ha => by
            by_cases ej : j = k
            · rw [ej]; exact hf2
            · exact h4 j hj (by omega) ha⟩
      · have hm := ih.mn h0 h1
        have c1 : ∀ x : Nat, cntF f (min (k + 1) x) = cntF f (min k x) := by
          intro x
          by_cases hx : x ≤ k
          · rw [show min (k + 1) x = min k x by omega]
          · rw [show min (k + 1) x = k + 1 by omega, show min k x = k by omega]
            simp only [cntF]
            rw [hf2]
            rfl
        rw [c1, c1]
        exact hm
theorem sc_next (f : Nat → Bool) (xs : List Int) (a b : Int) (n : Nat) : (sc a b (keys (ons f xs n))).nx = nextI f n a := by
  rcases (sc_inv f xs a b n).nx with ⟨e, h⟩ | ⟨t, e, h1, h2, h3, h4⟩
  · rw [e, next_none (fun j ha hj => h j hj (by omega))]
  · rw [e, next_is h3 (by omega) h1 (fun j ha hj => h4 j hj (by omega))]
theorem sc_prev (f : Nat → Bool) (xs : List Int) (a b : Int) (n : Nat) : (sc a b (keys (ons f xs n))).pv = prevI f n a := by
  unfold prevI
  rcases (sc_inv f xs a b n).pv with ⟨e, h⟩ | ⟨t, e, h1, h2, h3, h4⟩
  · rw [e, last_none _ (fun j hj => h j (by omega) (by omega))]
  · rw [e, last_is h3 _ (by omega) (fun j ha hj => h4 j ha (by omega) (by omega))]
theorem sc_many (f : Nat → Bool) (xs : List Int) (a b n : Nat) (h1 : a ≤ b) (h2 : b ≤ n) : (sc a b (keys (ons f xs n))).mn = cntF f b - cntF f a := by
  have h := (sc_inv f xs a b n).mn (by omega) (by omega)
  rw [Int.toNat_natCast, Int.toNat_natCast, show min n a = a by omega, show min n b = b by omega] at h
  omega
end Go.Proofs.YtbjkncgpoengaaaDoor.G13
