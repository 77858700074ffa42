/- Elements laid at rising slots of an array with gaps, plain: what is told of it. -/
import Derived.Test.YtofkkdjbilklcaaDoorY3
namespace Go.Proofs.YtofkkdjbilklcaaDoor.Y2
open Go.RowKit Go.Shelf Go.Proofs.YtofkkdjbilklcaaDoorW.PrintWords Go.Proofs.YtofkkdjbilklcaaDoorW.PrintLast Go.Proofs.YtofkkdjbilklcaaDoorW.PrintMore G1 G0 Q1 G2 G3 G4 G5 G6 G7 G8 G9 G10 S1 Y1 Y3
set_option linter.unusedVariables false
set_option linter.unusedSimpArgs false

/-- Nothing in it. -/
def gap0 (n : Nat) : Gap := ⟨fun _ => false, List.replicate n 0⟩
/-- The first i elements put at their slots. -/
def layG (S : Nat) (ps l : List Int) : Nat → Gap
  | 0 => gap0 S
  | i + 1 => putS S (layG S ps l i) (ps.getD i 0) (l.getD i 0)
/-- Slots that rise, all of them in the array. -/
structure Rise (S : Nat) (ps : List Int) : Prop where
  lo : ∀ i, i < ps.length → 0 ≤ ps.getD i 0 ∧ ps.getD i 0 < S
  up : ∀ i j, i < j → j < ps.length → ps.getD i 0 < ps.getD j 0
theorem putR_ok {S : Nat} {g : Gap} {p : Nat} (hp : p < S) (hf : g.on p = false) : putR S g (p : Int) = 0 := by
  have h1 : inR S (p : Int) = true := decide_eq_true (by omega)
  unfold putR
  rw [h1, if_pos rfl, Int.toNat_natCast, hf]
  rfl
theorem lay_is {S : Nat} {ps l : List Int} (h : Rise S ps) : ∀ i, i ≤ ps.length →
    (layG S ps l i).xs.length = S ∧ (∀ j, (layG S ps l i).on j = true ↔ ∃ t, t < i ∧ ps.getD t 0 = (j : Int)) ∧ (∀ t, t < i → (layG S ps l i).xs.getD (ps.getD t 0).toNat 0 = l.getD t 0)
  | 0, _ => ⟨by simp [layG, gap0], fun j => by simp [layG, gap0], fun t h => by omega⟩
  | i + 1, hi => by
    obtain ⟨a1, a2, a3⟩ := lay_is (l := l) h i (by omega)
    obtain ⟨p, hp⟩ := Int.eq_ofNat_of_zero_le (h.lo i (by omega)).1
    have hpS : p < S := by have := (h.lo i (by omega)).2; omega
    have hf : (layG S ps l i).on p = false := by
      cases hb : (layG S ps l i).on p with
      | false => rfl
      | true =>
        obtain ⟨t, ht, he⟩ := (a2 p).1 hb
        have := h.up t i ht (by omega)
        omega
    have hg : layG S ps l (i + 1) = ⟨upd (layG S ps l i).on p true, (layG S ps l i).xs.set p (l.getD i 0)⟩ := by
      show putS S (layG S ps l i) (ps.getD i 0) (l.getD i 0) = _
      unfold putS
      rw [hp, putR_ok hpS hf, if_pos rfl, Int.toNat_natCast]
    rw [hg]
    refine ⟨by simp [a1], fun j => ?_, fun t ht => ?_⟩
    · show upd (layG S ps l i).on p true j = true ↔ _
      unfold upd
      by_cases hj : j = p
      · rw [if_pos hj]
        exact ⟨fun _ => ⟨i, by omega, by omega⟩, fun _ => rfl⟩
      · rw [if_neg hj]
        rw [a2 j]
        constructor
        · rintro ⟨t, h1, h2⟩; exact ⟨t, by omega, h2⟩
        · rintro ⟨t, h1, h2⟩
          refine ⟨t, ?_, h2⟩
          by_cases ht : t = i
          · subst ht; omega
          · omega
    · show ((layG S ps l i).xs.set p (l.getD i 0)).getD (ps.getD t 0).toNat 0 = _
      by_cases hti : t = i
      · subst hti
        rw [hp, Int.toNat_natCast]
        simp [List.getD_eq_getElem?_getD, a1, hpS]
      · have hne := h.up t i (by omega) (by omega)
        have h0 := (h.lo t (by omega)).1
        have hq : p ≠ (ps.getD t 0).toNat := by omega
        rw [← a3 t (by omega)]
        generalize (ps.getD t 0).toNat = u at *
        simp only [List.getD_eq_getElem?_getD]
        rw [List.getElem?_set_ne hq]
theorem lay_put {S : Nat} {ps l : List Int} (h : Rise S ps) {i : Nat} (hi : i < ps.length) : putR S (layG S ps l i) (ps.getD i 0) = 0 := by
  obtain ⟨p, hp⟩ := Int.eq_ofNat_of_zero_le (h.lo i hi).1
  have hpS : p < S := by have := (h.lo i hi).2; omega
  rw [hp]
  refine putR_ok hpS ?_
  cases hb : (layG S ps l i).on p with
  | false => rfl
  | true =>
    obtain ⟨t, ht, he⟩ := ((lay_is (l := l) h i (by omega)).2.1 p).1 hb
    have := h.up t i ht hi
    omega
/-- What lies at rising slots, up to one. -/
theorem ons_rise {S : Nat} {ps : List Int} (h : Rise S ps) {f : Nat → Bool} (xs : List Int) (hf : ∀ j, f j = true ↔ ∃ t, t < ps.length ∧ ps.getD t 0 = (j : Int)) :
    ∀ i, i ≤ ps.length → ∀ b : Nat, (∀ t, t < i → ps.getD t 0 < (b : Int)) → (∀ t, i ≤ t → t < ps.length → (b : Int) ≤ ps.getD t 0) → ons f xs b = (List.range i).map fun t => ((ps.getD t 0).toNat, xs.getD (ps.getD t 0).toNat 0)
  | 0, _, b, _, h2 => by
    rw [ons_skip (a := 0) (by omega) (fun j _ hj => by
      cases hb : f j with
      | false => rfl
      | true =>
        obtain ⟨t, ht, he⟩ := (hf j).1 hb
        have := h2 t (by omega) ht
        omega)]
    rfl
  | i + 1, hi, b, h1, h2 => by
    obtain ⟨p, hp⟩ := Int.eq_ofNat_of_zero_le (h.lo i (by omega)).1
    have hpb := h1 i (by omega)
    have ih := ons_rise h xs hf i (by omega) p (fun t ht => by have := h.up t i ht (by omega); omega) (fun t ht ht2 => by
      by_cases e : t = i
      · subst e; omega
      · have := h.up i t (by omega) ht2; omega)
    rw [ons_skip (a := p + 1) (b := b) (by omega) (fun j hj1 hj2 => by
      cases hb : f j with
      | false => rfl
      | true =>
        obtain ⟨t, ht, he⟩ := (hf j).1 hb
        by_cases e1 : t < i + 1
        · by_cases e2 : t = i
          · subst e2; omega
          · have := h.up t i (by omega) (by omega); omega
        · have := h2 t (by omega) ht
          omega)]
    have hon : f p = true := (hf p).2 ⟨i, by omega, hp⟩
    rw [ons_succ, hon, ih, List.range_succ, List.map_append]
    simp only [List.map_cons, List.map_nil, hp, Int.toNat_natCast, if_true]
theorem map_getD (ps : List Int) : (List.range ps.length).map (fun t => ps.getD t 0) = ps := by
  apply List.ext_getElem
  · simp
  · intro i h1 h2
    simp [List.getD_eq_getElem?_getD] at h1 ⊢
    simp [h1]
/-- **What lies there: the slots, and the elements.** -/
theorem lay_keys {S : Nat} {ps l : List Int} (h : Rise S ps) : keys (ons (layG S ps l ps.length).on (layG S ps l ps.length).xs S) = ps := by
  rw [ons_rise h _ (lay_is (l := l) h ps.length (Nat.le_refl _)).2.1 ps.length (Nat.le_refl _) S (fun t ht => (h.lo t ht).2) (fun t h1 h2 => by omega)]
  conv => rhs; rw [← map_getD ps]
  unfold keys
  rw [List.map_map]
  refine List.map_congr_left fun t ht => ?_
  have := (h.lo t (List.mem_range.1 ht)).1
  simp only [Function.comp]
  omega
theorem lay_vals {S : Nat} {ps l : List Int} (h : Rise S ps) (hl : ps.length = l.length) : vals (ons (layG S ps l ps.length).on (layG S ps l ps.length).xs S) = l := by
  rw [ons_rise h _ (lay_is (l := l) h ps.length (Nat.le_refl _)).2.1 ps.length (Nat.le_refl _) S (fun t ht => (h.lo t ht).2) (fun t h1 h2 => by omega)]
  conv => rhs; rw [← map_getD l]
  unfold vals
  rw [List.map_map, hl]
  refine List.map_congr_left fun t ht => ?_
  have := (lay_is (l := l) h ps.length (Nat.le_refl _)).2.2 t (by rw [hl]; exact List.mem_range.1 ht)
  rw [hl] at this
  exact this
theorem lay_cnt {S : Nat} {ps l : List Int} (h : Rise S ps) : cntF (layG S ps l ps.length).on S = ps.length := by
  rw [← ons_length _ (layG S ps l ps.length).xs, ons_rise h _ (lay_is (l := l) h ps.length (Nat.le_refl _)).2.1 ps.length (Nat.le_refl _) S (fun t ht => (h.lo t ht).2) (fun t h1 h2 => by omega)]
  simp

/-! The slots of a spread rise. -/
theorem div_lt {j m : Nat} (hm : m ≤ 8) (hj : j < m) : ((j : Int) * 8) / (m : Int) < 8 := by
  have h : (j : Int) * 8 / (m : Int) < 8 := Int.ediv_lt_of_lt_mul (by omega) (by omega)
  exact h
theorem div_up {i j m : Nat} (hm : 1 ≤ m) (hm8 : m ≤ 8) (hij : i < j) : ((i : Int) * 8) / (m : Int) < ((j : Int) * 8) / (m : Int) := by
  have h : (i : Int) * 8 + (m : Int) ≤ (j : Int) * 8 := by omega
  have h1 : ((i : Int) * 8 + (m : Int)) / (m : Int) ≤ ((j : Int) * 8) / (m : Int) := Int.ediv_le_ediv (by omega) h
  have h2 : ((i : Int) * 8 + (m : Int)) / (m : Int) = ((i : Int) * 8) / (m : Int) + 1 := by
    rw [Int.add_ediv_of_dvd_right (Int.dvd_refl _), Int.ediv_self (by omega)]
  omega
theorem plJ_rise {n s f k : Nat} (hs : 1 ≤ s) (h3 : n ≤ 8 * s) : ∀ j, j ≤ shr n s k → (plJ n s f k j).Pairwise (· < ·) ∧ ∀ x ∈ plJ n s f k j, 8 * ((f : Int) + k) ≤ x ∧ x < 8 * ((f : Int) + k) + 8 ∧ (j < shr n s k → x < plV n s f k j)
  | 0, _ => by simp [plJ]
  | j + 1, hj => by
    obtain ⟨a1, a2⟩ := plJ_rise (f := f) (k := k) hs h3 j (by omega)
    have h8 : shr n s k ≤ 8 := shr_8 (k := k) hs h3
    have e0 : plV n s f k j = 8 * ((f : Int) + k) + ((j : Int) * 8) / (shr n s k : Int) := by unfold plV; rw [shI_eq hs]
    have e1 : plV n s f k (j + 1) = 8 * ((f : Int) + k) + (((j + 1 : Nat) : Int) * 8) / (shr n s k : Int) := by unfold plV; rw [shI_eq hs]
    have d1 := div_lt h8 (show j < shr n s k from by omega)
    have d2 := div_up (show 1 ≤ shr n s k by omega) h8 (show j < j + 1 by omega)
    have d0 : (0 : Int) ≤ (j : Int) * 8 / (shr n s k : Int) := Int.ediv_nonneg (by omega) (by omega)
    rw [plJ_succ]
    refine ⟨List.pairwise_append.2 ⟨a1, by simp, fun x hx y hy => ?_⟩, fun x hx => ?_⟩
    · obtain rfl := List.mem_singleton.1 hy
      exact (a2 x hx).2.2 (by omega)
    · rcases List.mem_append.1 hx with hx | hx
      · have := a2 x hx
        refine ⟨this.1, this.2.1, fun _ => ?_⟩
        have := this.2.2 (by omega)
        omega
      · obtain rfl := List.mem_singleton.1 hx
        exact ⟨by omega, by omega, fun _ => by omega⟩
theorem plK_rise {n s f : Nat} (hs : 1 ≤ s) (h3 : n ≤ 8 * s) : ∀ k, (plK n s f k).Pairwise (· < ·) ∧ ∀ x ∈ plK n s f k, 8 * (f : Int) ≤ x ∧ x < 8 * ((f : Int) + k)
  | 0 => by simp [plK]
  | k + 1 => by
    obtain ⟨a1, a2⟩ := plK_rise (f := f) hs h3 k
    obtain ⟨b1, b2⟩ := plJ_rise (f := f) (k := k) hs h3 (shr n s k) (Nat.le_refl _)
    rw [plK]
    refine ⟨List.pairwise_append.2 ⟨a1, b1, fun x hx y hy => ?_⟩, fun x hx => ?_⟩
    · have h1 := a2 x hx
      have h2 := b2 y hy
      omega
    · rcases List.mem_append.1 hx with hx | hx
      · have := a2 x hx; omega
      · have := b2 x hx; omega
theorem getD_mem {l : List Int} {i : Nat} (h : i < l.length) : l.getD i 0 ∈ l := by
  rw [List.getD_eq_getElem?_getD, List.getElem?_eq_getElem h]
  exact List.getElem_mem h
/-- **The slots of a spread from the first segment on rise.** -/
theorem pl_rise {n s : Nat} (hs : 1 ≤ s) (h3 : n ≤ 8 * s) : Rise (8 * s) (plK n s 0 s) := by
  obtain ⟨a1, a2⟩ := plK_rise (f := 0) hs h3 s
  refine ⟨fun i hi => ?_, fun i j hij hj => ?_⟩
  · have := a2 _ (getD_mem hi)
    omega
  · rw [List.getD_eq_getElem?_getD, List.getD_eq_getElem?_getD, List.getElem?_eq_getElem (show i < _ by omega), List.getElem?_eq_getElem hj]
    exact List.pairwise_iff_getElem.1 a1 i j (by omega) hj hij
theorem pl_len {n s : Nat} (f : Nat) (hs : 1 ≤ s) : (plK n s f s).length = n := by
  rw [plK_len f hs, Nat.mul_div_cancel_left n (by omega)]
end Go.Proofs.YtofkkdjbilklcaaDoor.Y2
