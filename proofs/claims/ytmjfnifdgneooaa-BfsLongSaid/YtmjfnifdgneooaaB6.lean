/- Plain facts: in a layout of keys that rise all keys below a place at its left are less, at its right greater. No program in sight. -/
import Derived.Test.YtmjfnifdgneooaaB5
namespace Go.Proofs.Ytmjfnifdgneooaa.B6
open Go.RowKit Go.Proofs.YtmjfnifdgneooaaW.PrintWords B1 B2 B3 B4 B5

theorem part {n : Nat} : ∀ (a : Nat), ∃ A C, inOrd n 0 = A ++ inOrd n a ++ C := by
  intro a
  induction a using Nat.strongRecOn with
  | _ a ih =>
    by_cases h0 : a = 0
    · subst h0
      exact ⟨[], [], by simp⟩
    · by_cases hn : a < n
      · obtain ⟨A, C, h⟩ := ih ((a - 1) / 2) (by omega)
        rw [inOrd_in (show (a - 1) / 2 < n by omega)] at h
        by_cases e : a = 2 * ((a - 1) / 2) + 1
        · rw [← e] at h
          exact ⟨A, (a - 1) / 2 :: inOrd n (2 * ((a - 1) / 2) + 2) ++ C, by rw [h]; simp⟩
        · have e2 : a = 2 * ((a - 1) / 2) + 2 := by omega
          rw [← e2] at h
          exact ⟨A ++ inOrd n (2 * ((a - 1) / 2) + 1) ++ [(a - 1) / 2], C, by rw [h]; simp⟩
      · rw [inOrd_out hn]
        exact ⟨[], inOrd n 0, by simp⟩
theorem lay_lt {keys : List Int} (hr : risingB keys = true) {A B C : List Nat} {p q : Nat} (h : inOrd keys.length 0 = A ++ p :: B ++ q :: C) : (layOf keys).getD p 0 < (layOf keys).getD q 0 := by
  have hl := congrArg List.length h
  rw [length_zero] at hl
  simp at hl
  have h1 := layOf_at keys A.length (by omega)
  have h2 := layOf_at keys (A.length + 1 + B.length) (by omega)
  have e1 : (inOrd keys.length 0).getD A.length 0 = p := by rw [h]; simp [List.getD_eq_getElem?_getD]
  have e2 : (inOrd keys.length 0).getD (A.length + 1 + B.length) 0 = q := by
    rw [h, List.getD_eq_getElem?_getD, List.getElem?_append_right (by simp; omega)]
    simp
    rw [show A.length + 1 + B.length - (A.length + (B.length + 1)) = 0 by omega]
    simp
  rw [e1] at h1
  rw [e2] at h2
  rw [h1, h2]
  exact rising_lt hr (by omega) (by omega)
theorem split_mem {l : List Nat} {p : Nat} (h : p ∈ l) : ∃ s t, l = s ++ p :: t := List.append_of_mem h
theorem left_lt {keys : List Int} (hr : risingB keys = true) {a p : Nat} (ha : a < keys.length) (hp : p < keys.length) (h : anc (2 * a + 1) p) : (layOf keys).getD p 0 < (layOf keys).getD a 0 := by
  obtain ⟨A, C, e⟩ := part (n := keys.length) a
  rw [inOrd_in ha] at e
  obtain ⟨s, t, e2⟩ := split_mem (mem_ord.2 ⟨hp, h⟩)
  rw [e2] at e
  exact lay_lt hr (A := A ++ s) (B := t) (C := inOrd keys.length (2 * a + 2) ++ C) (by rw [e]; simp)
theorem right_lt {keys : List Int} (hr : risingB keys = true) {a p : Nat} (ha : a < keys.length) (hp : p < keys.length) (h : anc (2 * a + 2) p) : (layOf keys).getD a 0 < (layOf keys).getD p 0 := by
  obtain ⟨A, C, e⟩ := part (n := keys.length) a
  rw [inOrd_in ha] at e
  obtain ⟨s, t, e2⟩ := split_mem (mem_ord.2 ⟨hp, h⟩)
  rw [e2] at e
  exact lay_lt hr (A := A ++ inOrd keys.length (2 * a + 1)) (B := s) (C := t ++ C) (by rw [e]; simp)
/-- What the law asks on the way from p upwards. -/
theorem way {keys : List Int} (hr : risingB keys = true) {a p k : Nat} (ha : a < keys.length) (hp : p < keys.length) (hk : anc k p) (h1 : a < k) (h2 : (k - 1) / 2 = a) :
    decide (k = 2 * a + 1) = decide ((layOf keys).getD p 0 < (layOf keys).getD a 0) := by
  by_cases e : k = 2 * a + 1
  · subst e
    rw [decide_eq_true rfl, decide_eq_true (left_lt hr ha hp hk)]
  · have e2 : k = 2 * a + 2 := by omega
    subst e2
    have := right_lt hr ha hp hk
    rw [decide_eq_false e, decide_eq_false (by omega)]
theorem anc_par {k : Nat} : ∀ (p : Nat), anc k p → 0 < k → anc ((k - 1) / 2) p := by
  intro p h h0
  rw [anc_split]
  by_cases e : k = 2 * ((k - 1) / 2) + 1
  · rw [← e]; exact .inr (.inl h)
  · have e2 : k = 2 * ((k - 1) / 2) + 2 := by omega
    rw [← e2]; exact .inr (.inr h)
end Go.Proofs.Ytmjfnifdgneooaa.B6
