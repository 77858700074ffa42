/- Plain facts: places in breadth-first layouts, in their order: which there are, how many, and which is the n-th; what a search tells. No program in sight. -/
import Derived.Test.YtmjfnifdgneooaaB2
import Derived.Test.YtmjfnifdgneooaaPBfsOfx2
import Derived.Test.YtmjfnifdgneooaaPBfsSearchesx2
namespace Go.Proofs.Ytmjfnifdgneooaa.B3
open Go.RowKit Go.Proofs.YtmjfnifdgneooaaW.PrintWords B1 B2

/-- The places below one, itself among them, in their order. -/
def inOrd (many : Nat) (p : Nat) : List Nat := if p < many then inOrd many (2 * p + 1) ++ p :: inOrd many (2 * p + 2) else []
termination_by many - p
theorem inOrd_in {many p : Nat} (h : p < many) : inOrd many p = inOrd many (2 * p + 1) ++ p :: inOrd many (2 * p + 2) := by
  conv => lhs; unfold inOrd
  rw [if_pos h]
theorem inOrd_out {many p : Nat} (h : ¬ p < many) : inOrd many p = [] := by
  unfold inOrd
  rw [if_neg h]
theorem len_in {many p : Nat} (h : p < many) : (inOrd many p).length = (inOrd many (2 * p + 1)).length + 1 + (inOrd many (2 * p + 2)).length := by
  rw [inOrd_in h]
  simp
  omega
/-- One comes from q, upwards, to p. -/
def anc (p : Nat) (q : Nat) : Prop := if q ≤ p then q = p else anc p ((q - 1) / 2)
termination_by q
decreasing_by omega
theorem anc_self (p : Nat) : anc p p := by unfold anc; rw [if_pos (Nat.le_refl _)]
theorem anc_up {p q : Nat} (h : p < q) : anc p q ↔ anc p ((q - 1) / 2) := by
  conv => lhs; unfold anc
  rw [if_neg (by omega)]
theorem anc_le {p q : Nat} (h : q ≤ p) : anc p q ↔ q = p := by
  conv => lhs; unfold anc
  rw [if_pos h]
theorem anc_ge {p : Nat} : ∀ {q : Nat}, anc p q → p ≤ q := by
  intro q h
  refine Nat.le_of_not_lt fun hc => ?_
  rw [anc_le (by omega)] at h
  omega
theorem anc_split {p : Nat} (q : Nat) : anc p q ↔ q = p ∨ anc (2 * p + 1) q ∨ anc (2 * p + 2) q := by
  induction q using Nat.strongRecOn with
  | _ q ih =>
    by_cases h : q ≤ p
    · rw [anc_le h]
      constructor
      · exact .inl
      · rintro (h1 | h1 | h1)
        · exact h1
        · have := anc_ge h1; omega
        · have := anc_ge h1; omega
    · rw [anc_up (by omega), ih ((q - 1) / 2) (by omega)]
      by_cases h1 : q ≤ 2 * p + 1
      · rw [anc_le h1, anc_le (show q ≤ 2 * p + 2 by omega)]
        constructor
        · rintro (h2 | h2 | h2)
          · exact .inr (.inl (by omega))
          · have := anc_ge h2; omega
          · have := anc_ge h2; omega
        · rintro (h2 | h2 | h2)
          · omega
          · exact .inl (by omega)
          · omega
      · by_cases h2 : q = 2 * p + 2
        · subst h2
          exact ⟨fun _ => .inr (.inr (anc_self _)), fun _ => .inl (by omega)⟩
        · rw [anc_up (show 2 * p + 1 < q by omega), anc_up (show 2 * p + 2 < q by omega)]
          constructor
          · rintro (h3 | h3)
            · omega
            · exact .inr h3
          · rintro (h3 | h3)
            · omega
            · exact .inr h3
theorem anc_apart {p : Nat} (q : Nat) (h1 : anc (2 * p + 1) q) (h2 : anc (2 * p + 2) q) : False := by
  induction q using Nat.strongRecOn with
  | _ q ih =>
    have g1 := anc_ge h1
    have g2 := anc_ge h2
    by_cases e : q = 2 * p + 2
    · subst e
      rw [anc_up (by omega)] at h1
      have := anc_ge h1
      omega
    · rw [anc_up (by omega)] at h1 h2
      exact ih _ (by omega) h1 h2
theorem anc_zero (q : Nat) : anc 0 q := by
  induction q using Nat.strongRecOn with
  | _ q ih =>
    by_cases e : q = 0
    · subst e; exact anc_self 0
    · rw [anc_up (by omega)]
      exact ih _ (by omega)
theorem mem_inOrd {many : Nat} : ∀ (d p : Nat), many - p ≤ d → ∀ q, q ∈ inOrd many p ↔ q < many ∧ anc p q := by
  intro d
  induction d with
  | zero =>
    intro p h q
    rw [inOrd_out (by omega)]
    constructor
    · intro h; cases h
    · rintro ⟨h1, h2⟩; have := anc_ge h2; omega
  | succ d ih =>
    intro p h q
    by_cases hp : p < many
    · rw [inOrd_in hp, List.mem_append, List.mem_cons, ih (2 * p + 1) (by omega), ih (2 * p + 2) (by omega), anc_split (p := p) q]
      constructor
      · rintro (⟨h1, h2⟩ | h1 | ⟨h1, h2⟩)
        · exact ⟨h1, .inr (.inl h2)⟩
        · exact ⟨by omega, .inl h1⟩
        · exact ⟨h1, .inr (.inr h2)⟩
      · rintro ⟨h1, h2 | h2 | h2⟩
        · exact .inr (.inl h2)
        · exact .inl ⟨h1, h2⟩
        · exact .inr (.inr ⟨h1, h2⟩)
    · rw [inOrd_out hp]
      constructor
      · intro h; cases h
      · rintro ⟨h1, h2⟩; have := anc_ge h2; omega
theorem mem_ord {many p q : Nat} : q ∈ inOrd many p ↔ q < many ∧ anc p q := mem_inOrd (many - p) p (Nat.le_refl _) q
theorem nodup_ord {many : Nat} : ∀ (d p : Nat), many - p ≤ d → (inOrd many p).Nodup := by
  intro d
  induction d with
  | zero => intro p h; rw [inOrd_out (by omega)]; exact List.nodup_nil
  | succ d ih =>
    intro p h
    by_cases hp : p < many
    · rw [inOrd_in hp, List.nodup_append]
      refine ⟨ih _ (by omega), ?_, ?_⟩
      · rw [List.nodup_cons]
        refine ⟨fun hm => ?_, ih _ (by omega)⟩
        have := anc_ge (mem_ord.1 hm).2
        omega
      · intro a ha b hb e
        subst e
        have h1 := (mem_ord.1 ha).2
        rcases List.mem_cons.1 hb with e | hb
        · subst e
          have := anc_ge h1
          omega
        · exact anc_apart a h1 (mem_ord.1 hb).2
    · rw [inOrd_out hp]; exact List.nodup_nil
theorem nodup (many p : Nat) : (inOrd many p).Nodup := nodup_ord (many - p) p (Nat.le_refl _)
theorem len_sub : ∀ (l m : List Nat), l.Nodup → l ⊆ m → l.length ≤ m.length := by
  intro l
  induction l with
  | nil => intro m _ _; simp
  | cons a l ih =>
    intro m hn hs
    rw [List.nodup_cons] at hn
    have ha : a ∈ m := hs (by simp)
    have h := ih (m.erase a) hn.2 fun x hx => (List.mem_erase_of_ne (fun e => hn.1 (by rw [← e]; exact hx))).2 (hs (by simp [hx]))
    rw [List.length_erase_of_mem ha] at h
    have : 0 < m.length := List.length_pos_of_mem ha
    simp
    omega
theorem length_le {many : Nat} (p : Nat) : (inOrd many p).length ≤ many := by
  have h := (nodup many p)
  have hs : (inOrd many p) ⊆ List.range many := fun q hq => by
    rw [List.mem_range]
    exact (mem_ord.1 hq).1
  have := len_sub _ _ h hs
  simpa using this
theorem length_zero (many : Nat) : (inOrd many 0).length = many := by
  refine Nat.le_antisymm (length_le 0) ?_
  have hs : List.range many ⊆ (inOrd many 0) := fun q hq => by
    rw [List.mem_range] at hq
    exact mem_ord.2 ⟨hq, anc_zero q⟩
  have := len_sub _ _ List.nodup_range hs
  simpa using this
end Go.Proofs.Ytmjfnifdgneooaa.B3
