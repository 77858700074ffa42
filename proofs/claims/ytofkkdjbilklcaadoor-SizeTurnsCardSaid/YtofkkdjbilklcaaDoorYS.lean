/- Plain: how many of a spread's elements lie in each segment. -/
import Derived.Test.YtofkkdjbilklcaaDoorY7
namespace Go.Proofs.YtofkkdjbilklcaaDoor.YS
open Go.RowKit Go.Shelf Go.Proofs.YtofkkdjbilklcaaDoorW.PrintWords Go.Proofs.YtofkkdjbilklcaaDoorW.PrintLast Go.Proofs.YtofkkdjbilklcaaDoorW.PrintMore G1 G0 Q1 G2 G3 G4 G5 G6 G7 G8 G9 G10 S1 Y1 Y3 Y2 Y4 Y5 Y6 Y7
open L1 (capB forN hgt cap_mem mayB manyN fewN)
set_option linter.unusedVariables false
set_option linter.unusedSimpArgs false
theorem plK_add {n s f : Nat} (hs : 1 ≤ s) (h3 : n ≤ 8 * s) (k : Nat) : ∀ d, ∃ R, plK n s f (k + d) = plK n s f k ++ R ∧ ∀ x ∈ R, 8 * ((f : Int) + k) ≤ x
  | 0 => ⟨[], by simp, by simp⟩
  | d + 1 => by
    obtain ⟨R, e, h⟩ := plK_add hs h3 k d
    obtain ⟨_, b2⟩ := plJ_rise (f := f) (k := k + d) hs h3 (shr n s (k + d)) (Nat.le_refl _)
    refine ⟨R ++ plJ n s f (k + d) (shr n s (k + d)), ?_, fun x hx => ?_⟩
    · show plK n s f (k + d) ++ _ = _
      rw [e, List.append_assoc]
      rfl
    · rcases List.mem_append.1 hx with hx | hx
      · exact h x hx
      · have := b2 x hx
        omega
/-- How many lie ahead of a segment. -/
theorem lay_cnt_at {s k : Nat} {l : List Int} (hs : 1 ≤ s) (h3 : l.length ≤ 8 * s) (hk : k ≤ s) : cntF (layG (8 * s) (plK l.length s 0 s) l l.length).on (8 * k) = k * l.length / s := by
  have hR : Rise (8 * s) (plK l.length s 0 s) := pl_rise hs h3
  have hlen := pl_len (n := l.length) 0 hs
  have hl2 := plK_len (n := l.length) 0 hs k
  obtain ⟨R, e, hx⟩ := plK_add (f := 0) hs h3 k (s - k)
  rw [show k + (s - k) = s by omega] at e
  obtain ⟨_, hlo⟩ := plK_rise (f := 0) hs h3 k
  have hle : (plK l.length s 0 k).length ≤ (plK l.length s 0 s).length := by rw [e]; simp
  have hL := (lay_is (l := l) hR l.length (by rw [hlen]; exact Nat.le_refl _)).2.1
  rw [← ons_length _ (layG (8 * s) (plK l.length s 0 s) l l.length).xs, ons_rise hR _ (by rw [hlen]; exact hL) (plK l.length s 0 k).length hle (8 * k) (fun t ht => ?_) (fun t h1 h2 => ?_)]
  · simp [hl2]
  · have hm : (plK l.length s 0 s).getD t 0 ∈ plK l.length s 0 k := by
      rw [e, List.getD_eq_getElem?_getD, List.getElem?_append_left ht, List.getElem?_eq_getElem ht]
      exact List.getElem_mem ht
    have := hlo _ hm
    omega
  · have hm : (plK l.length s 0 s).getD t 0 ∈ R := by
      rw [e] at h2 ⊢
      rw [List.getD_eq_getElem?_getD, List.getElem?_append_right h1, List.getElem?_eq_getElem (by simp at h2; omega)]
      exact List.getElem_mem _
    have := hx _ hm
    omega
theorem div_sum (a n : Nat) {s : Nat} (hs : 1 ≤ s) : a / s + n / s ≤ (a + n) / s ∧ (a + n) / s ≤ a / s + n / s + 1 := by
  have a1 := Nat.div_add_mod a s
  have a2 := Nat.div_add_mod n s
  have a3 := Nat.mod_lt a (show 0 < s by omega)
  have a4 := Nat.mod_lt n (show 0 < s by omega)
  have e : a + n = s * (a / s + n / s) + (a % s + n % s) := by rw [Nat.mul_add]; omega
  have h1 : (a + n) / s = a / s + n / s + (a % s + n % s) / s := by
    conv => lhs; rw [e]
    rw [Nat.mul_add_div (by omega)]
  have h2 : (a % s + n % s) / s ≤ 1 := by
    exact Nat.le_of_lt_succ ((Nat.div_lt_iff_lt_mul (by omega)).2 (by omega))
  rw [h1]
  exact ⟨Nat.le_add_right _ _, Nat.add_le_add_left h2 _⟩
/-- Shares differ by one at most. -/
theorem shr_between {n s k : Nat} (hs : 1 ≤ s) : n / s ≤ shr n s k ∧ shr n s k ≤ n / s + 1 := by
  unfold Y1.shr
  have e : (k + 1) * n = k * n + n := Nat.succ_mul k n
  obtain ⟨b1, b2⟩ := div_sum (k * n) n hs
  rw [e]
  generalize (k * n + n) / s = x at *
  generalize k * n / s = y at *
  generalize n / s = z at *
  omega
/-- Where so many fit, they are no more than 5 a segment, and, but in the least capacity, no less than 2. -/
theorem fits_bounds {n s : Nat} (hc : capB ((8 * s : Nat) : Int) = true) (h : fitsB (n : Int) ((8 * s : Nat) : Int) = true) : n ≤ 5 * s ∧ (4 < s → 2 * s ≤ n) := by
  obtain ⟨e1, e2, e3, e4, e5⟩ := fit_small _ (cap_mem hc)
  unfold fitsB at h
  rw [hc, if_pos rfl, if_neg (by omega)] at h
  have h := of_decide_eq_true h
  unfold withN at h
  rw [e3, e4] at h
  have eq : ((8 * s : Nat) : Int) / 8 = (s : Int) := by omega
  rw [eq] at h
  generalize hgt ((8 * s : Nat) : Int) = q at *
  have m1 : q * n > q * (5 * s) ↔ (n : Int) > 5 * s := Int.mul_lt_mul_left (by omega)
  have m2 : q * n < q * (2 * s) ↔ (n : Int) < 2 * s := Int.mul_lt_mul_left (by omega)
  split at h
  · omega
  · rename_i h1
    rw [m1] at h1
    refine ⟨by omega, fun h4 => ?_⟩
    rw [if_neg (show ¬ ((8 * s : Nat) : Int) = 32 by omega)] at h
    split at h
    · omega
    · rename_i h2
      rw [m2] at h2
      omega
end Go.Proofs.YtofkkdjbilklcaaDoor.YS
