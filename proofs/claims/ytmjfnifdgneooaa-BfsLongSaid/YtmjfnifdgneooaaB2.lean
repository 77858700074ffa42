/- Plain facts: the nearest key, by the search and by trying all. -/
import Derived.Test.YtmjfnifdgneooaaA1
namespace Go.Proofs.Ytmjfnifdgneooaa.B2
open Go.RowKit Go.Proofs.YtmjfnifdgneooaaW.PrintWords B1 A1

/-- How far a key is. -/
def dist (l : List Int) (key : Int) (i : Nat) : Int := if l.getD i 0 < key then key - l.getD i 0 else l.getD i 0 - key
/-- The first place of those whose keys are nearest. -/
def NearAt (l : List Int) (key : Int) (r : Nat) : Prop := r < l.length ∧ (∀ j, j < l.length → dist l key r ≤ dist l key j) ∧ ∀ j, j < r → dist l key r < dist l key j
theorem NearAt.unique {l : List Int} {key : Int} {r s : Nat} (h : NearAt l key r) (k : NearAt l key s) : r = s := by
  obtain ⟨h1, h2, h3⟩ := h
  obtain ⟨k1, k2, k3⟩ := k
  rcases Nat.lt_trichotomy r s with c | c | c
  · have := k3 r c; have := h2 s k1; omega
  · exact c
  · have := h3 s c; have := k2 r h1; omega
/-- A whole number of 64 bits. -/
def W64 (x : Int) : Prop := -9223372036854775808 ≤ x ∧ x ≤ 9223372036854775807
theorem u64_wrap (x : Int) : IntKind.u64.wrap x = x % 18446744073709551616 := by
  simp [IntKind.wrap, IntKind.bits, IntKind.signed]
theorem farW_eq {a b : Int} (ha : W64 a) (hb : W64 b) (h : a ≤ b) : farW a b = b - a := by
  unfold farW
  obtain ⟨a1, a2⟩ := ha; obtain ⟨b1, b2⟩ := hb
  rw [u64_wrap, u64_wrap, u64_wrap]
  omega
theorem rank_below {l : List Int} {key : Int} (hr : risingB l = true) {i : Nat} (hi : i < l.length) : l.getD i 0 < key ↔ i < rankN l key := by
  have hN := rankN_less key hr
  have hle := rankN_le l key
  -- 'less' splits at one place
  have key1 : ∀ n, n ≤ l.length → (∀ i, i < n → l.getD i 0 < key) → (∀ i, n ≤ i → i < l.length → ¬ l.getD i 0 < key) → n = rankN l key := fun n h1 h2 h3 => by rw [hN]; exact (less_mid h1 h2 h3).symm
  have ex : ∀ d n, n + d = l.length → (∀ i, i < n → l.getD i 0 < key) → ∃ m, m ≤ l.length ∧ (∀ i, i < m → l.getD i 0 < key) ∧ (∀ i, m ≤ i → i < l.length → ¬ l.getD i 0 < key) := by
    intro d
    induction d with
    | zero => intro n hn h; exact ⟨n, by omega, h, fun i h1 h2 => by omega⟩
    | succ d ih =>
      intro n hn h
      by_cases c : l.getD n 0 < key
      · exact ih (n + 1) (by omega) fun i hi => by
          by_cases e : i = n
          · rw [e]; exact c
          · exact h i (by omega)
      · refine ⟨n, by omega, h, fun i h1 h2 => ?_⟩
        by_cases e : i = n
        · rw [e]; exact c
        · have := rising_lt hr (show n < i by omega) h2
          omega
  obtain ⟨m, m1, m2, m3⟩ := ex l.length 0 (by omega) (fun i hi => by omega)
  have e := key1 m m1 m2 m3
  rw [← e]
  constructor
  · intro h
    refine Nat.lt_of_not_le fun hc => m3 i hc hi h
  · exact m2 i
theorem near_spec {l : List Int} {key : Int} (hr : risingB l = true) (hpos : 0 < l.length) (hl : ∀ i, i < l.length → W64 (l.getD i 0)) (hk : W64 key) : NearAt l key (nearN l key) := by
  have hb := fun i hi => rank_below (key := key) hr (i := i) hi
  have hle := rankN_le l key
  have low : ∀ i j, i < j → j < rankN l key → dist l key j < dist l key i := fun i j h1 h2 => by
    have := rising_lt hr h1 (by omega)
    unfold dist
    rw [if_pos ((hb j (by omega)).2 h2), if_pos ((hb i (by omega)).2 (by omega))]
    omega
  have high : ∀ i j, i < j → rankN l key ≤ i → j < l.length → dist l key i < dist l key j := fun i j h1 h2 h3 => by
    have := rising_lt hr h1 (by omega)
    unfold dist
    rw [if_neg (fun h => by have := (hb i (by omega)).1 h; omega), if_neg (fun h => by have := (hb j (by omega)).1 h; omega)]
    omega
  unfold nearN
  simp only
  generalize rankN l key = p at *
  by_cases h0 : p = 0
  · rw [if_pos h0]
    refine ⟨hpos, fun j hj => ?_, fun j hj => by omega⟩
    rcases Nat.eq_zero_or_pos j with rfl | h
    · exact Int.le_refl _
    · exact Int.le_of_lt (high 0 j h (by omega) hj)
  rw [if_neg h0]
  by_cases h1 : p = l.length
  · rw [if_pos h1]
    refine ⟨by omega, fun j hj => ?_, fun j hj => low j (p - 1) hj (by omega)⟩
    by_cases e : j = p - 1
    · rw [e]; exact Int.le_refl _
    · exact Int.le_of_lt (low j (p - 1) (by omega) (by omega))
  rw [if_neg h1]
  have d1 : farW (l.getD (p - 1) 0) key = dist l key (p - 1) := by
    have := (hb (p - 1) (by omega)).2 (by omega)
    rw [farW_eq (hl _ (by omega)) hk (by omega)]
    unfold dist
    rw [if_pos this]
  have d2 : farW key (l.getD p 0) = dist l key p := by
    have : ¬ l.getD p 0 < key := fun h => by have := (hb p (by omega)).1 h; omega
    rw [farW_eq hk (hl _ (by omega)) (by omega)]
    unfold dist
    rw [if_neg this]
  rw [d1, d2]
  by_cases h2 : dist l key (p - 1) ≤ dist l key p
  · rw [if_pos h2]
    refine ⟨by omega, fun j hj => ?_, fun j hj => low j (p - 1) hj (by omega)⟩
    rcases Nat.lt_trichotomy j (p - 1) with c | c | c
    · exact Int.le_of_lt (low j (p - 1) c (by omega))
    · rw [c]; exact Int.le_refl _
    · by_cases e : j = p
      · rw [e]; exact h2
      · have := high p j (by omega) (by omega) hj
        omega
  · rw [if_neg h2]
    refine ⟨by omega, fun j hj => ?_, fun j hj => ?_⟩
    · rcases Nat.lt_trichotomy j p with c | c | c
      · by_cases e : j = p - 1
        · rw [e]; omega
        · have := low j (p - 1) (by omega) (by omega)
          omega
      · rw [c]; exact Int.le_refl _
      · exact Int.le_of_lt (high p j c (by omega) hj)
    · by_cases e : j = p - 1
      · rw [e]; omega
      · have := low j (p - 1) (by omega) (by omega)
        omega

theorem refFar_f (x key : Int) (hx : W64 x) (hk : W64 key) : PBisectSpans.punnetref17_Far.f x key = some (if x < key then key - x else x - key) := by
  unfold PBisectSpans.punnetref17_Far.f
  obtain ⟨a1, a2⟩ := hx; obtain ⟨b1, b2⟩ := hk
  simp only [u64_wrap]
  split
  · congr 1; omega
  · congr 1; omega
theorem refNear_f (l : List Int) (key : Int) (hpos : 0 < l.length) (hlen : l.length ≤ 1000000) (hl : ∀ i, i < l.length → W64 (l.getD i 0)) (hk : W64 key) : ∃ k r, PBisectSpans.punnetref17_Near.f k l key = some (r : Int) ∧ ∃ r' : Nat, r = r' ∧ NearAt l key r' := by
  have go : ∀ (d i k b : Nat), i + d = l.length → d < k → b < l.length → b ≤ i → (∀ j, j < i → dist l key b ≤ dist l key j) → (∀ j, j < b → dist l key b < dist l key j) → ∃ r : Nat, PBisectSpans.punnetref17_Near.l0 k l key b i = some (r : Int) ∧ NearAt l key r := by
    intro d
    induction d with
    | zero =>
      intro i k b hd hk' hb hbi h1 h2
      obtain ⟨k, rfl⟩ : ∃ m, k = m + 1 := ⟨k - 1, by omega⟩
      simp only [PBisectSpans.punnetref17_Near.l0]
      rw [if_neg (by omega)]
      exact ⟨b, rfl, hb, fun j hj => h1 j (by omega), h2⟩
    | succ d ih =>
      intro i k b hd hk' hb hbi h1 h2
      obtain ⟨k, rfl⟩ : ∃ m, k = m + 1 := ⟨k - 1, by omega⟩
      simp only [PBisectSpans.punnetref17_Near.l0]
      have e2 : wrap64 ((i : Int) + 1) = ((i + 1 : Nat) : Int) := by unfold wrap64; omega
      rw [if_pos (by omega), if_pos (by omega), rd_nat, refFar_f _ _ (hl i (by omega)) hk]
      simp only [Option.bind_some]
      rw [if_pos (by omega), if_pos (by omega), rd_nat, refFar_f _ _ (hl b hb) hk]
      simp only [Option.bind_some]
      rw [e2]
      show ∃ r : Nat, (if dist l key i < dist l key b then _ else _) = _ ∧ _
      by_cases c : dist l key i < dist l key b
      · rw [if_pos c]
        refine ih (i + 1) k i (by omega) (by omega) (by omega) (by omega) (fun j hj => ?_) (fun j hj => ?_)
        · by_cases e : j = i
          · rw [e]; exact Int.le_refl _
          · have := h1 j (by omega); omega
        · have := h1 j (by omega); omega
      · rw [if_neg c]
        refine ih (i + 1) k b (by omega) (by omega) hb (by omega) (fun j hj => ?_) h2
        by_cases e : j = i
        · rw [e]; omega
        · exact h1 j (by omega)
  obtain ⟨r, h, hn⟩ := go l.length 0 (l.length + 1) 0 (by omega) (by omega) hpos (by omega) (fun j hj => by omega) (fun j hj => by omega)
  exact ⟨l.length + 1, r, h, r, rfl, hn⟩
end Go.Proofs.Ytmjfnifdgneooaa.B2
