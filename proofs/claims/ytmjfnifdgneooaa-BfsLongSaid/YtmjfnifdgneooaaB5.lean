/- Plain facts: a layout filled place by place, and its keys told again. No program in sight. -/
import Derived.Test.YtmjfnifdgneooaaB4
namespace Go.Proofs.Ytmjfnifdgneooaa.B5
open Go.RowKit Go.Proofs.YtmjfnifdgneooaaW.PrintWords B1 B2 B3 B4

/-- Keys put at places, one behind the other, from the j-th key on. -/
def fill (keys : List Int) : List Nat → Nat → List Int → List Int
  | [], _, acc => acc
  | p :: ps, j, acc => fill keys ps (j + 1) (acc.set p (keys.getD j 0))
theorem fill_snoc (keys : List Int) (q : Nat) : ∀ (ps : List Nat) (j : Nat) (acc : List Int), fill keys (ps ++ [q]) j acc = (fill keys ps j acc).set q (keys.getD (j + ps.length) 0) := by
  intro ps
  induction ps with
  | nil => intro j acc; simp [fill]
  | cons p ps ih =>
    intro j acc
    simp only [List.cons_append, fill]
    rw [ih]
    congr 2
    simp
    omega
theorem fill_length (keys : List Int) : ∀ (ps : List Nat) (j : Nat) (acc : List Int), (fill keys ps j acc).length = acc.length := by
  intro ps
  induction ps with
  | nil => intro j acc; rfl
  | cons p ps ih => intro j acc; simp only [fill]; rw [ih]; simp
theorem fill_out (keys : List Int) (q : Nat) : ∀ (ps : List Nat) (j : Nat) (acc : List Int), q ∉ ps → (fill keys ps j acc).getD q 0 = acc.getD q 0 := by
  intro ps
  induction ps with
  | nil => intro j acc _; rfl
  | cons p ps ih =>
    intro j acc h
    simp only [List.mem_cons, not_or] at h
    simp only [fill]
    rw [ih _ _ h.2]
    simp only [List.getD_eq_getElem?_getD]
    rw [List.getElem?_set_ne (by omega)]
theorem fill_at (keys : List Int) : ∀ (ps : List Nat) (j : Nat) (acc : List Int), ps.Nodup → (∀ p ∈ ps, p < acc.length) → ∀ i (hi : i < ps.length), (fill keys ps j acc).getD ps[i] 0 = keys.getD (j + i) 0 := by
  intro ps
  induction ps with
  | nil => intro j acc _ _ i hi; simp at hi
  | cons p ps ih =>
    intro j acc hn hl i hi
    rw [List.nodup_cons] at hn
    simp only [fill]
    cases i with
    | zero =>
      simp only [List.getElem_cons_zero, Nat.add_zero]
      rw [fill_out keys p ps _ _ hn.1, List.getD_eq_getElem?_getD, List.getElem?_set_self (hl p (by simp))]
      rfl
    | succ i =>
      simp only [List.getElem_cons_succ]
      rw [ih (j + 1) _ hn.2 (fun q hq => by rw [List.length_set]; exact hl q (by simp [hq])) i (by simpa using hi)]
      congr 1
      omega
/-- The layout of keys. -/
def layOf (keys : List Int) : List Int := fill keys (inOrd keys.length 0) 0 (List.replicate keys.length 0)
/-- A layout's keys, in order. -/
def sortedOf (l : List Int) : List Int := (inOrd l.length 0).map fun p => l.getD p 0
theorem layOf_length (keys : List Int) : (layOf keys).length = keys.length := by unfold layOf; rw [fill_length]; simp
theorem layOf_at (keys : List Int) (i : Nat) (hi : i < keys.length) : (layOf keys).getD ((inOrd keys.length 0).getD i 0) 0 = keys.getD i 0 := by
  have hl := length_zero keys.length
  have h := fill_at keys (inOrd keys.length 0) 0 (List.replicate keys.length 0) (nodup _ _) (fun p hp => by simpa using (mem_ord.1 hp).1) i (by omega)
  rw [Nat.zero_add] at h
  rw [show (inOrd keys.length 0).getD i 0 = (inOrd keys.length 0)[i]'(by omega) by simp [List.getD_eq_getElem?_getD, hl, hi]]
  exact h
theorem sortedOf_length (l : List Int) : (sortedOf l).length = l.length := by unfold sortedOf; rw [List.length_map, length_zero]
theorem sorted_lay (keys : List Int) : sortedOf (layOf keys) = keys := by
  refine List.ext_getElem (by rw [sortedOf_length, layOf_length]) fun i h1 h2 => ?_
  have hl := length_zero keys.length
  have h := layOf_at keys i h2
  unfold sortedOf
  simp only [List.getElem_map, layOf_length]
  rw [show (inOrd keys.length 0)[i]'(by omega) = (inOrd keys.length 0).getD i 0 by simp [List.getD_eq_getElem?_getD, hl, h2], h]
  simp [List.getD_eq_getElem?_getD, h2]

theorem rdnat (l : List Nat) (i : Nat) (h : i < l.length) : rd (nat l) (i : Int) = ((l[i] : Nat) : Int) := by
  unfold rd nat
  simp [List.getD_eq_getElem?_getD, h]
theorem refSorted_f (l : List Int) (hl : l.length ≤ 100000000) : ∃ k, PBfsOf.punnetref18_Sorted.f k l = some (sortedOf l) := by
  have hz := length_zero l.length
  have go : ∀ (d i k : Nat), i + d = l.length → d < k → PBfsOf.punnetref18_Sorted.l0 k l ((inOrd l.length 0).take i |>.map fun p => l.getD p 0) (nat (inOrd l.length 0)) i = some (sortedOf l) := by
    intro d
    induction d with
    | zero =>
      intro i k hd hk
      obtain ⟨k, rfl⟩ : ∃ j, k = j + 1 := ⟨k - 1, by omega⟩
      simp only [PBfsOf.punnetref18_Sorted.l0]
      rw [if_neg (by rw [nat_length]; omega), List.take_of_length_le (by omega)]
      rfl
    | succ d ih =>
      intro i k hd hk
      obtain ⟨k, rfl⟩ : ∃ j, k = j + 1 := ⟨k - 1, by omega⟩
      simp only [PBfsOf.punnetref18_Sorted.l0]
      have hi : i < (inOrd l.length 0).length := by omega
      have hlt := (mem_ord.1 (List.getElem_mem hi)).1
      have h := ih (i + 1) k (by omega) (by omega)
      rw [List.take_succ_eq_append_getElem hi, List.map_append] at h
      rw [if_pos (by rw [nat_length]; omega), if_pos (by omega), rdnat _ _ hi, if_pos (by omega), if_pos (by omega), if_pos (by rw [List.length_map, List.length_take]; omega), wr _ (by omega), rd_nat]
      exact h
  refine ⟨l.length + 1, ?_⟩
  unfold PBfsOf.punnetref18_Sorted.f
  rw [show (0 : Int) = ((0 : Nat) : Int) from rfl, order_fPBfsOf (by omega) l.length _ 0 (by omega) (by omega) (by omega)]
  exact go l.length 0 _ (by omega) (by omega)
theorem refOf_f (keys : List Int) (hl : keys.length ≤ 100000000) : ∃ k, PBfsOf.punnetref18_Of.f k keys = some (layOf keys) := by
  have hz := length_zero keys.length
  have go : ∀ (d i k : Nat), i + d = keys.length → d < k → PBfsOf.punnetref18_Of.l0 k keys (fill keys ((inOrd keys.length 0).take i) 0 (List.replicate keys.length 0)) (nat (inOrd keys.length 0)) i = some (layOf keys) := by
    intro d
    induction d with
    | zero =>
      intro i k hd hk
      obtain ⟨k, rfl⟩ : ∃ j, k = j + 1 := ⟨k - 1, by omega⟩
      simp only [PBfsOf.punnetref18_Of.l0]
      rw [if_neg (by rw [nat_length]; omega), List.take_of_length_le (by omega)]
      rfl
    | succ d ih =>
      intro i k hd hk
      obtain ⟨k, rfl⟩ : ∃ j, k = j + 1 := ⟨k - 1, by omega⟩
      simp only [PBfsOf.punnetref18_Of.l0]
      have hi : i < (inOrd keys.length 0).length := by omega
      have hlt := (mem_ord.1 (List.getElem_mem hi)).1
      have h := ih (i + 1) k (by omega) (by omega)
      rw [List.take_succ_eq_append_getElem hi, fill_snoc, List.length_take] at h
      rw [if_pos (by rw [nat_length]; omega), if_pos (by omega), if_pos (by omega), rdnat _ _ hi, if_pos (by omega), if_pos (by rw [fill_length]; simp; omega), wr _ (by omega), rd_nat, Int.toNat_natCast]
      rw [show 0 + min i (inOrd keys.length 0).length = i by omega] at h
      exact h
  refine ⟨keys.length + 1, ?_⟩
  unfold PBfsOf.punnetref18_Of.f
  rw [if_pos (by omega), if_pos (by omega), show (0 : Int) = ((0 : Nat) : Int) from rfl, order_fPBfsOf (by omega) keys.length _ 0 (by omega) (by omega) (by omega)]
  simp only [Option.bind_some, Int.toNat_natCast]
  exact go keys.length 0 _ (by omega) (by omega)
end Go.Proofs.Ytmjfnifdgneooaa.B5
