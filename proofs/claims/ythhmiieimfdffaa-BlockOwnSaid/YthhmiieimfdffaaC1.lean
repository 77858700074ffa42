/- Plain facts: places of keys in blocks, in their order: which there are, how many. No program in sight. -/
import Derived.Test.YthhmiieimfdffaaWWords
namespace Go.Proofs.Ythhmiieimfdffaa.C1
open Go.RowKit Go.Proofs.YthhmiieimfdffaaW.PrintWords
set_option linter.unusedVariables false

/-- How many keys a block has; its first child. -/
def sz (n w i : Nat) : Nat := min w (n - i * w)
def kid (w i : Nat) : Nat := i * (w + 1) + 1
theorem kid_gt (w i : Nat) : i < kid w i := by
  unfold kid
  rw [Nat.mul_succ]
  omega
theorem lt_of_in {n w i : Nat} (h : 0 < w ∧ i * w < n) : i < n := Nat.lt_of_le_of_lt (Nat.le_mul_of_pos_right i h.1) h.2
/-- The places of a block's subtree, in order. -/
def ord (n w i : Nat) : List Nat :=
  if h : 0 < w ∧ i * w < n then
    ((List.range (sz n w i)).flatMap fun k => ord n w (kid w i + k) ++ [i * w + k]) ++ ord n w (kid w i + sz n w i)
  else []
termination_by n - i
decreasing_by
  all_goals
    have := lt_of_in h
    have := kid_gt w i
    omega
/-- .. of its first m children and keys. -/
def part (n w i m : Nat) : List Nat := (List.range m).flatMap fun k => ord n w (kid w i + k) ++ [i * w + k]
theorem part_zero (n w i : Nat) : part n w i 0 = [] := rfl
theorem part_succ (n w i m : Nat) : part n w i (m + 1) = part n w i m ++ (ord n w (kid w i + m) ++ [i * w + m]) := by
  unfold part
  rw [List.range_succ, List.flatMap_append]
  simp
theorem ord_in {n w i : Nat} (h : 0 < w ∧ i * w < n) : ord n w i = part n w i (sz n w i) ++ ord n w (kid w i + sz n w i) := by
  conv => lhs; unfold ord
  rw [dif_pos h]
  rfl
theorem ord_out {n w i : Nat} (h : ¬ i * w < n) : ord n w i = [] := by
  unfold ord
  rw [dif_neg (fun c => h c.2)]

/-- One block comes, upwards, to another. -/
def anc (w p q : Nat) : Prop := if q ≤ p then q = p else anc w p ((q - 1) / (w + 1))
termination_by q
decreasing_by
  have : (q - 1) / (w + 1) ≤ q - 1 := Nat.div_le_self _ _
  omega
theorem up_lt {w q : Nat} (h : 0 < q) : (q - 1) / (w + 1) < q := by
  have : (q - 1) / (w + 1) ≤ q - 1 := Nat.div_le_self _ _
  omega
theorem anc_self (w p : Nat) : anc w p p := by unfold anc; rw [if_pos (Nat.le_refl _)]
theorem anc_up {w p q : Nat} (h : p < q) : anc w p q ↔ anc w p ((q - 1) / (w + 1)) := by
  conv => lhs; unfold anc
  rw [if_neg (by omega)]
theorem anc_le {w p q : Nat} (h : q ≤ p) : anc w p q ↔ q = p := by
  conv => lhs; unfold anc
  rw [if_pos h]
theorem anc_ge {w p : Nat} : ∀ {q : Nat}, anc w p q → p ≤ q := by
  intro q h
  refine Nat.le_of_not_lt fun hc => ?_
  rw [anc_le (by omega)] at h
  omega
theorem up_kid {w p k : Nat} (hk : k ≤ w) : (kid w p + k - 1) / (w + 1) = p := by
  unfold kid
  rw [show p * (w + 1) + 1 + k - 1 = k + (w + 1) * p by rw [Nat.mul_comm]; omega, Nat.add_mul_div_left _ _ (by omega), Nat.div_eq_of_lt (by omega)]
  omega
theorem kid_up {w q : Nat} (h : 0 < q) : q = kid w ((q - 1) / (w + 1)) + (q - 1) % (w + 1) := by
  unfold kid
  have := Nat.div_add_mod (q - 1) (w + 1)
  rw [Nat.mul_comm] at this
  omega
theorem anc_split {w p : Nat} (q : Nat) : anc w p q ↔ q = p ∨ ∃ k, k ≤ w ∧ anc w (kid w p + k) q := by
  induction q using Nat.strongRecOn with
  | _ q ih =>
    have hg := kid_gt w p
    by_cases h : q ≤ p
    · rw [anc_le h]
      constructor
      · exact .inl
      · rintro (h1 | ⟨k, hk, h1⟩)
        · exact h1
        · have := anc_ge h1; omega
    · rw [anc_up (by omega), ih ((q - 1) / (w + 1)) (up_lt (by omega))]
      constructor
      · rintro (h1 | ⟨k, hk, h1⟩)
        · have e := kid_up (w := w) (q := q) (by omega)
          rw [h1] at e
          have hm : (q - 1) % (w + 1) < w + 1 := Nat.mod_lt _ (by omega)
          exact .inr ⟨(q - 1) % (w + 1), by omega, by rw [← e]; exact anc_self w q⟩
        · refine .inr ⟨k, hk, ?_⟩
          have := anc_ge h1
          have := up_lt (w := w) (q := q) (by omega)
          exact (anc_up (by omega)).2 h1
      · rintro (h1 | ⟨k, hk, h1⟩)
        · omega
        · by_cases e : q = kid w p + k
          · left
            rw [e, up_kid hk]
          · have := anc_ge h1
            exact .inr ⟨k, hk, (anc_up (by omega)).1 h1⟩
theorem anc_apart {w p k j : Nat} (hk : k ≤ w) (hj : j ≤ w) (hkj : k < j) (q : Nat) (h1 : anc w (kid w p + k) q) (h2 : anc w (kid w p + j) q) : False := by
  induction q using Nat.strongRecOn with
  | _ q ih =>
    have g1 := anc_ge h1
    have g2 := anc_ge h2
    have hg := kid_gt w p
    by_cases e : q = kid w p + j
    · rw [anc_up (by omega), e, up_kid hj] at h1
      have := anc_ge h1
      omega
    · rw [anc_up (by omega)] at h1 h2
      exact ih _ (up_lt (by omega)) h1 h2
theorem anc_zero (w q : Nat) : anc w 0 q := by
  induction q using Nat.strongRecOn with
  | _ q ih =>
    by_cases e : q = 0
    · subst e; exact anc_self w 0
    · rw [anc_up (by omega)]
      exact ih _ (up_lt (by omega))
/-- Of a place: its block, and where it is there. -/
theorem place_of {w i k : Nat} (hk : k < w) : (i * w + k) / w = i ∧ (i * w + k) % w = k := by
  rw [Nat.mul_comm, Nat.mul_add_div (by omega), Nat.div_eq_of_lt hk, Nat.mul_add_mod, Nat.mod_eq_of_lt hk]
  exact ⟨by omega, rfl⟩
theorem of_place {w q : Nat} : q = q / w * w + q % w := by rw [Nat.mul_comm]; exact (Nat.div_add_mod q w).symm
/-- Below a block that is not whole there are none. -/
theorem last_block {n w i q : Nat} (hw : 0 < w) (hm : sz n w i < w) (hq : q < n) : q / w ≤ i := by
  unfold sz at hm
  have : q < (i + 1) * w := by rw [Nat.add_mul]; omega
  have := Nat.div_lt_of_lt_mul (show q < w * (i + 1) by rw [Nat.mul_comm]; exact this)
  omega
theorem mem_part {n w i m : Nat} (hw : 0 < w) (hm : m ≤ w) (ih : ∀ k, k < m → ∀ q, q ∈ ord n w (kid w i + k) ↔ q < n ∧ anc w (kid w i + k) (q / w)) (q : Nat) :
    q ∈ part n w i m ↔ (q / w = i ∧ q % w < m) ∨ (q < n ∧ ∃ k, k < m ∧ anc w (kid w i + k) (q / w)) := by
  induction m with
  | zero => simp [part_zero]
  | succ m ihm =>
    rw [part_succ, List.mem_append, List.mem_append, ihm (by omega) (fun k hk => ih k (by omega)), ih m (by omega), List.mem_singleton]
    constructor
    · rintro ((⟨h1, h2⟩ | ⟨h1, k, hk, h2⟩) | ⟨h1, h2⟩ | h1)
      · exact .inl ⟨h1, by omega⟩
      · exact .inr ⟨h1, k, by omega, h2⟩
      · exact .inr ⟨h1, m, by omega, h2⟩
      · obtain ⟨e1, e2⟩ := place_of (i := i) (show m < w by omega)
        rw [h1, e1, e2]
        exact .inl ⟨rfl, by omega⟩
    · rintro (⟨h1, h2⟩ | ⟨h1, k, hk, h2⟩)
      · by_cases e : q % w = m
        · have := of_place (w := w) (q := q)
          rw [h1, e] at this
          exact .inr (.inr this)
        · exact .inl (.inl ⟨h1, by omega⟩)
      · by_cases e : k = m
        · subst e
          exact .inr (.inl ⟨h1, h2⟩)
        · exact .inl (.inr ⟨h1, k, by omega, h2⟩)
theorem mem_ord' {n w : Nat} (hw : 0 < w) : ∀ (d i : Nat), n - i ≤ d → ∀ q, q ∈ ord n w i ↔ q < n ∧ anc w i (q / w) := by
  have none : ∀ i q : Nat, ¬ i * w < n → (q ∈ ord n w i ↔ q < n ∧ anc w i (q / w)) := by
    intro i q h
    rw [ord_out h]
    constructor
    · intro h; cases h
    · rintro ⟨h1, h2⟩
      have h3 := anc_ge h2
      have : i * w ≤ q / w * w := Nat.mul_le_mul_right w h3
      have := of_place (w := w) (q := q)
      omega
  intro d
  induction d with
  | zero =>
    intro i h q
    refine none i q (fun c => ?_)
    have := lt_of_in ⟨hw, c⟩
    omega
  | succ d ih =>
    intro i h q
    by_cases hi : i * w < n
    · have hlt := lt_of_in ⟨hw, hi⟩
      have hg := kid_gt w i
      have hs : sz n w i ≤ w := Nat.min_le_left _ _
      rw [ord_in ⟨hw, hi⟩, List.mem_append, mem_part hw hs (fun k hk q => ih _ (by omega) q), ih _ (by omega), anc_split (p := i)]
      constructor
      · rintro ((⟨h1, h2⟩ | ⟨h1, k, hk, h2⟩) | ⟨h1, h2⟩)
        · have := of_place (w := w) (q := q)
          rw [h1] at this
          unfold sz at h2
          exact ⟨by omega, .inl h1⟩
        · exact ⟨h1, .inr ⟨k, by omega, h2⟩⟩
        · exact ⟨h1, .inr ⟨_, hs, h2⟩⟩
      · rintro ⟨h1, h2 | ⟨k, hk, h2⟩⟩
        · refine .inl (.inl ⟨h2, ?_⟩)
          have := of_place (w := w) (q := q)
          rw [h2] at this
          have := Nat.mod_lt q hw
          unfold sz
          omega
        · by_cases hm : sz n w i < w
          · have := last_block hw hm h1
            have := anc_ge h2
            omega
          · by_cases e : k = sz n w i
            · subst e
              exact .inr ⟨h1, h2⟩
            · exact .inl (.inr ⟨h1, k, by omega, h2⟩)
    · exact none i q hi
theorem mem_ord {n w : Nat} (hw : 0 < w) {i q : Nat} : q ∈ ord n w i ↔ q < n ∧ anc w i (q / w) := mem_ord' hw (n - i) i (Nat.le_refl _) q
theorem nodup_part {n w i m : Nat} (hw : 0 < w) (hm : m ≤ w) (ih : ∀ k, k < m → (ord n w (kid w i + k)).Nodup) : (part n w i m).Nodup := by
  induction m with
  | zero => rw [part_zero]; exact List.nodup_nil
  | succ m ihm =>
    have hg := kid_gt w i
    rw [part_succ, List.nodup_append]
    refine ⟨ihm (by omega) (fun k hk => ih k (by omega)), ?_, ?_⟩
    · rw [List.nodup_append]
      refine ⟨ih m (by omega), by simp, ?_⟩
      intro a ha b hb e
      rw [List.mem_singleton] at hb
      subst e
      have h1 := anc_ge ((mem_ord hw).1 ha).2
      rw [hb, (place_of (show m < w by omega)).1] at h1
      omega
    · intro a ha b hb e
      subst e
      rw [mem_part hw (by omega) (fun k hk q => mem_ord hw)] at ha
      rw [List.mem_append, List.mem_singleton, mem_ord hw] at hb
      rcases ha with ⟨h1, h2⟩ | ⟨h1, k, hk, h2⟩
      · rcases hb with ⟨_, h3⟩ | h3
        · have := anc_ge h3; omega
        · rw [h3, (place_of (show m < w by omega)).2] at h2; omega
      · rcases hb with ⟨_, h3⟩ | h3
        · exact anc_apart (by omega) (by omega) hk _ h2 h3
        · rw [h3, (place_of (show m < w by omega)).1] at h2
          have := anc_ge h2; omega
theorem nodup_ord' {n w : Nat} (hw : 0 < w) : ∀ (d i : Nat), n - i ≤ d → (ord n w i).Nodup := by
  intro d
  induction d with
  | zero =>
    intro i h
    rw [ord_out (fun c => by have := lt_of_in ⟨hw, c⟩; omega)]
    exact List.nodup_nil
  | succ d ih =>
    intro i h
    by_cases hi : i * w < n
    · have hlt := lt_of_in ⟨hw, hi⟩
      have hg := kid_gt w i
      have hs : sz n w i ≤ w := Nat.min_le_left _ _
      rw [ord_in ⟨hw, hi⟩, List.nodup_append]
      refine ⟨nodup_part hw hs (fun k hk => ih _ (by omega)), ih _ (by omega), ?_⟩
      intro a ha b hb e
      subst e
      rw [mem_part hw hs (fun k hk q => mem_ord hw)] at ha
      have hb := ((mem_ord hw).1 hb).2
      rcases ha with ⟨h1, h2⟩ | ⟨h1, k, hk, h2⟩
      · have := anc_ge hb; omega
      · exact anc_apart (by omega) hs hk _ h2 hb
    · rw [ord_out hi]; exact List.nodup_nil
theorem nodup {n w : Nat} (hw : 0 < w) (i : Nat) : (ord n w i).Nodup := nodup_ord' hw (n - i) i (Nat.le_refl _)
theorem len_sub : ∀ (l m : List Nat), l.Nodup → l ⊆ m → l.length ≤ m.length := by
  intro l
  induction l with
  | nil => intro m _ _; simp
  | cons a l ih =>
    intro m hn hs
    rw [List.nodup_cons] at hn
    have ha : a ∈ m := hs (by simp)
    have h := ih (m.erase a) hn.2 fun x hx => (List.mem_erase_of_ne (fun e => hn.1 (by rw [← e]; exact hx))).2 (hs (by simp [hx]))
    rw [List.length_erase_of_mem ha] at h
    have : 0 < m.length := List.length_pos_of_mem ha
    simp
    omega
theorem length_le {n w : Nat} (hw : 0 < w) (i : Nat) : (ord n w i).length ≤ n := by
  have hs : ord n w i ⊆ List.range n := fun q hq => by
    rw [List.mem_range]
    exact ((mem_ord hw).1 hq).1
  have := len_sub _ _ (nodup hw i) hs
  simpa using this
theorem length_zero {n w : Nat} (hw : 0 < w) : (ord n w 0).length = n := by
  refine Nat.le_antisymm (length_le hw 0) ?_
  have hs : List.range n ⊆ ord n w 0 := fun q hq => by
    rw [List.mem_range] at hq
    exact (mem_ord hw).2 ⟨hq, anc_zero w _⟩
  have := len_sub _ _ List.nodup_range hs
  simpa using this

/-- How many places a subtree has; and subtrees side by side. -/
def cnt (n w i : Nat) : Nat := (ord n w i).length
theorem cnt_le {n w : Nat} (hw : 0 < w) (i : Nat) : cnt n w i ≤ n := length_le hw i
theorem cnt_out {n w i : Nat} (h : ¬ i * w < n) : cnt n w i = 0 := by unfold cnt; rw [ord_out h]; rfl
def sumC (n w p : Nat) : Nat → Nat
  | 0 => 0
  | m + 1 => sumC n w p m + cnt n w (p + m)
theorem part_length (n w i : Nat) : ∀ m, (part n w i m).length = m + sumC n w (kid w i) m := by
  intro m
  induction m with
  | zero => rfl
  | succ m ih =>
    rw [part_succ, List.length_append, List.length_append, ih]
    simp only [sumC, cnt, List.length_singleton]
    omega
theorem sum_split (n w a m : Nat) : ∀ k, sumC n w a (m + k) = sumC n w a m + sumC n w (a + m) k := by
  intro k
  induction k with
  | zero => rfl
  | succ k ih =>
    show sumC n w a (m + k) + cnt n w (a + (m + k)) = _
    rw [ih]
    simp only [sumC]
    rw [← Nat.add_assoc a m k]
    omega
theorem sum_out {n w p : Nat} (h : n ≤ p * w) : ∀ m, sumC n w p m = 0 := by
  intro m
  induction m with
  | zero => rfl
  | succ m ih =>
    show _ + cnt n w (p + m) = 0
    rw [ih, cnt_out (by rw [Nat.add_mul]; omega)]
theorem kid_mul {n w p : Nat} (hw : 0 < w) (h : n ≤ p * w + w) : n ≤ kid w p * w := by
  have : p + 1 ≤ kid w p := kid_gt w p
  have : (p + 1) * w ≤ kid w p * w := Nat.mul_le_mul_right w this
  rw [Nat.add_mul] at this
  omega
theorem cnt_kids {n w p : Nat} (hw : 0 < w) : cnt n w p = sz n w p + sumC n w (kid w p) (w + 1) := by
  by_cases hi : p * w < n
  · have h : cnt n w p = sz n w p + sumC n w (kid w p) (sz n w p + 1) := by
      unfold cnt
      rw [ord_in ⟨hw, hi⟩, List.length_append, part_length]
      simp only [sumC, cnt]
      omega
    by_cases hm : sz n w p = w
    · rw [h, hm]
    · have hz := sum_out (n := n) (w := w) (p := kid w p) (kid_mul hw (by unfold sz at hm; omega))
      rw [h, hz, hz]
  · have hz := sum_out (n := n) (w := w) (p := kid w p) (kid_mul hw (by omega))
    rw [cnt_out hi, hz]
    unfold sz
    omega
theorem kid_add (w p m : Nat) : kid w (p + m) = kid w p + m * (w + 1) := by
  unfold kid
  rw [Nat.add_mul]
  omega
theorem sum_level {n w : Nat} (hw : 0 < w) (p : Nat) : ∀ m, sumC n w p m = (min ((p + m) * w) n - min (p * w) n) + sumC n w (kid w p) (m * (w + 1)) := by
  intro m
  induction m with
  | zero => simp [sumC]
  | succ m ih =>
    show sumC n w p m + cnt n w (p + m) = _
    rw [ih, cnt_kids hw, kid_add, show (m + 1) * (w + 1) = m * (w + 1) + (w + 1) by rw [Nat.add_mul, Nat.one_mul], sum_split n w (kid w p) (m * (w + 1)) (w + 1)]
    unfold sz
    have e : (p + (m + 1)) * w = (p + m) * w + w := by rw [← Nat.add_assoc, Nat.add_mul (p + m) 1 w, Nat.one_mul]
    have e2 : p * w ≤ (p + m) * w := Nat.mul_le_mul_right w (by omega)
    rw [e]
    omega
end Go.Proofs.Ythhmiieimfdffaa.C1
