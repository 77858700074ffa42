/- Counts, plainly: sums, windows, the level, the reference. -/
import Derived.Test.YtlaegahdignphaaDoorM2
namespace Go.Proofs.YtlaegahdignphaaDoor.M3
open Go.RowKit Go.Proofs.YtlaegahdignphaaDoorW.PrintWords Go.Proofs.YtlaegahdignphaaDoorW.PrintLast Go.Proofs.YtlaegahdignphaaDoorW.PrintMore Q2 L1 L3 S1 M1 M2
set_option linter.unusedVariables false
set_option linter.unusedSimpArgs false

theorem take_sum {l : List Int} {i : Nat} (h : i < l.length) : (l.take (i + 1)).sum = (l.take i).sum + l.getD i 0 := by
  rw [List.take_succ_eq_append_getElem h, List.sum_append]
  simp [List.getD_eq_getElem?_getD, h]
theorem good_iff {l : List Int} : goodL l ↔ ∀ x ∈ l, 0 ≤ x ∧ x ≤ 8 := by
  constructor
  · intro h x hx
    obtain ⟨i, hi, rfl⟩ := List.mem_iff_getElem.1 hx
    have := h i hi
    simpa [List.getD_eq_getElem?_getD, hi] using this
  · intro h j hj
    have := h l[j] (List.getElem_mem hj)
    simpa [List.getD_eq_getElem?_getD, hj] using this
theorem sum_bound : ∀ {l : List Int}, (∀ x ∈ l, 0 ≤ x ∧ x ≤ 8) → 0 ≤ l.sum ∧ l.sum ≤ 8 * (l.length : Int)
  | [], _ => by simp
  | x :: l, h => by
    have h1 := sum_bound (l := l) fun y hy => h y (List.mem_cons_of_mem _ hy)
    have h2 := h x List.mem_cons_self
    simp only [List.sum_cons, List.length_cons]
    omega
theorem good_sum {l : List Int} (h : goodL l) : 0 ≤ l.sum ∧ l.sum ≤ 8 * (l.length : Int) := sum_bound (good_iff.1 h)
theorem good_take {l : List Int} (h : goodL l) (n : Nat) : goodL (l.take n) := good_iff.2 fun x hx => good_iff.1 h x (List.mem_of_mem_take hx)
theorem good_drop {l : List Int} (h : goodL l) (n : Nat) : goodL (l.drop n) := good_iff.2 fun x hx => good_iff.1 h x (List.mem_of_mem_drop hx)
theorem rd_nat (l : List Int) (i : Nat) : rd l (i : Int) = l.getD i 0 := rfl
theorem part_bound {l : List Int} (h : goodL l) (hl : l.length ≤ 4096) (i : Nat) : 0 ≤ (l.take i).sum ∧ (l.take i).sum ≤ 32768 := by
  have h1 := good_sum (good_take h i)
  have h2 : (l.take i).length ≤ l.length := by simp; omega
  omega
theorem sum_loop {l : List Int} (hg : goodL l) (hl : l.length ≤ 4096) : ∀ d i : Nat, i + d = l.length → Ev (fun k => pick_sum.l0 k (l.take i).sum l (l.length : Int) (i : Int)) l.sum
  | 0, i, e => by
    refine Ev.step (f := fun _ => some l.sum) (fun k => ?_) (Ev.now _)
    show (if (i : Int) < (l.length : Int) then _ else _) = _
    rw [if_neg (by omega), show i = l.length by omega, List.take_length]
  | d + 1, i, e => by
    have ih := sum_loop hg hl d (i + 1) (by omega)
    refine Ev.step (fun k => ?_) ih
    show (if (i : Int) < (l.length : Int) then _ else _) = _
    have hb := part_bound hg hl (i + 1)
    have hi : i < l.length := by omega
    rw [if_pos (by omega), if_pos (by omega), if_pos (by omega), rd_nat, ← take_sum hi, w64 (by omega) (by omega), w64 (x := (i : Int) + 1) (by omega) (by omega)]
    rfl
theorem sum_ev {l : List Int} (hg : goodL l) (hl : l.length ≤ 4096) : Ev (fun k => pick_sum.f k l) l.sum := by
  have := sum_loop hg hl l.length 0 (by omega)
  simpa [pick_sum.f] using this
theorem total_loop {l : List Int} (hg : goodL l) (hl : l.length ≤ 4096) : ∀ d i : Nat, i + d = l.length → Ev (fun k => punnetlaw05_total.l0 k l (l.take i).sum (i : Int)) l.sum
  | 0, i, e => by
    refine Ev.step (f := fun _ => some l.sum) (fun k => ?_) (Ev.now _)
    show (if (i : Int) < (l.length : Int) then _ else _) = _
    rw [if_neg (by omega), show i = l.length by omega, List.take_length]
  | d + 1, i, e => by
    have ih := total_loop hg hl d (i + 1) (by omega)
    refine Ev.step (fun k => ?_) ih
    show (if (i : Int) < (l.length : Int) then _ else _) = _
    have hb := part_bound hg hl (i + 1)
    have hi : i < l.length := by omega
    rw [if_pos (by omega), if_pos (by omega), rd_nat, ← take_sum hi, w64 (by omega) (by omega), w64 (x := (i : Int) + 1) (by omega) (by omega)]
    rfl
theorem total_ev {l : List Int} (hg : goodL l) (hl : l.length ≤ 4096) : Ev (fun k => punnetlaw05_total.f k l) l.sum := by
  have := total_loop hg hl l.length 0 (by omega)
  simpa [punnetlaw05_total.f] using this
/-- The elements of some segments. -/
def sumW (l : List Int) (f n : Nat) : Int := ((l.drop f).take n).sum
theorem sumW_bound {l : List Int} (hg : goodL l) (hl : l.length ≤ 4096) (f n : Nat) : 0 ≤ sumW l f n ∧ sumW l f n ≤ 32768 := part_bound (good_drop hg f) (by simp; omega) n
theorem count_ev {l : List Int} (hg : goodL l) (hl : l.length ≤ 4096) {f n : Nat} (h : f + n ≤ l.length) (a : Int) : Ev (fun k => pick_window_count.f k a (f : Int) (n : Int) l) (sumW l f n) := by
  have e : wrap64 ((f : Int) + (n : Int)) = ((f + n : Nat) : Int) := by rw [w64 (by omega) (by omega)]; omega
  have e2 : (l.take (((f + n : Nat) : Int)).toNat).drop (f : Int).toNat = (l.drop f).take n := by
    rw [Int.toNat_natCast, Int.toNat_natCast, List.drop_take, Nat.add_sub_cancel_left]
  refine Ev.congr (f := fun k => (pick_sum.f k ((l.drop f).take n)).bind fun t => some t) (fun k => ?_) (Ev.bind (sum_ev (good_take (good_drop hg f) n) (by simp; omega)) (Ev.now _))
  unfold pick_window_count.f
  rw [e, if_pos (by omega), if_pos (by omega), if_pos (by omega), e2]
theorem refSum_loop {l : List Int} (hg : goodL l) (hl : l.length ≤ 4096) {f n : Nat} (h : f + n ≤ l.length) : ∀ d i : Nat, i + d = n → Ev (fun k => punnetref05_Sum.l0 k l (f : Int) (n : Int) ((l.drop f).take i).sum ((f + i : Nat) : Int)) (sumW l f n)
  | 0, i, e => by
    refine Ev.step (f := fun _ => some (sumW l f n)) (fun k => ?_) (Ev.now _)
    show (if _ < wrap64 _ then _ else _) = _
    rw [w64 (by omega) (by omega), if_neg (by omega), show i = n by omega]
    rfl
  | d + 1, i, e => by
    have ih := refSum_loop hg hl h d (i + 1) (by omega)
    refine Ev.step (fun k => ?_) ih
    show (if _ < wrap64 _ then _ else _) = _
    have hb := sumW_bound hg hl f (i + 1)
    have hi : i < (l.drop f).length := by simp; omega
    have hr : rd l ((f + i : Nat) : Int) = (l.drop f).getD i 0 := by rw [rd_nat]; simp [List.getD_eq_getElem?_getD]
    rw [w64 (by omega) (by omega), if_pos (by omega), if_pos (by omega), if_pos (by omega), hr, ← take_sum hi, w64 (by unfold sumW at hb; omega) (by unfold sumW at hb; omega), w64 (x := ((f + i : Nat) : Int) + 1) (by omega) (by omega)]
    rfl
theorem refSum_ev {l : List Int} (hg : goodL l) (hl : l.length ≤ 4096) {f n : Nat} (h : f + n ≤ l.length) : Ev (fun k => punnetref05_Sum.f k l (f : Int) (n : Int)) (sumW l f n) := by
  have := refSum_loop hg hl h n 0 (by omega)
  simpa [punnetref05_Sum.f] using this
/-- How high counts are. -/
def hN (l : List Int) : Nat := (hgt (8 * (l.length : Int))).toNat
theorem caps : ∀ s ∈ ([32, 64, 128, 256, 512, 1024, 2048, 4096] : List Int), hgt s = ((hgt s).toNat : Int) ∧ 2 ≤ (hgt s).toNat ∧ (hgt s).toNat ≤ 9 ∧ s = 8 * ((2 ^ (hgt s).toNat : Nat) : Int) := by decide +kernel
structure Caps (l : List Int) : Prop where
  h : hgt (8 * (l.length : Int)) = (hN l : Int)
  h2 : 2 ≤ hN l
  h9 : hN l ≤ 9
  len : l.length = 2 ^ hN l
theorem caps_of {l : List Int} (h : capB (8 * (l.length : Int)) = true) : Caps l := by
  obtain ⟨h1, h2, h3, h4⟩ := caps _ (cap_mem h)
  exact ⟨h1, h2, h3, by unfold hN; omega⟩
theorem Caps.le {l : List Int} (h : Caps l) : l.length ≤ 512 := by
  rw [h.len]
  exact Nat.pow_le_pow_right (by omega) h.h9
/-- The window of a level that has a segment: its first one. -/
def wF (s k : Nat) : Nat := s - s % 2 ^ k
theorem wF_eq (s k : Nat) : wF s k = 2 ^ k * (s / 2 ^ k) := by
  unfold wF
  have := Nat.div_add_mod s (2 ^ k)
  omega
theorem wF_le {s k h : Nat} (hs : s < 2 ^ h) (hk : k ≤ h) : wF s k + 2 ^ k ≤ 2 ^ h := by
  rw [wF_eq]
  have e : 2 ^ h = 2 ^ k * 2 ^ (h - k) := by rw [← Nat.pow_add]; congr 1; omega
  have : s / 2 ^ k < 2 ^ (h - k) := Nat.div_lt_of_lt_mul (by rw [← e]; exact hs)
  rw [e, show 2 ^ k * (s / 2 ^ k) + 2 ^ k = 2 ^ k * (s / 2 ^ k + 1) by rw [Nat.mul_add]; omega]
  exact Nat.mul_le_mul_left _ this
theorem wFirst_nat (s k : Nat) : wFirst (s : Int) (k : Int) = (wF s k : Int) := by
  unfold wFirst wF
  have h1 : ((2 : Int) ^ (k : Int).toNat) = ((2 ^ k : Nat) : Int) := by rw [Int.toNat_natCast]; exact (Int.natCast_pow 2 k).symm
  rw [h1, ← Int.natCast_emod]
  have := Nat.mod_le s (2 ^ k)
  omega
theorem wMany_nat (k : Nat) : wMany (k : Int) = ((2 ^ k : Nat) : Int) := by
  unfold wMany
  rw [Int.toNat_natCast]
  exact (Int.natCast_pow 2 k).symm
/-- Whether the window of a level is within. -/
def okW (l : List Int) (s k : Nat) : Bool := withN (sumW l (wF s k) (2 ^ k)) (k : Int) (hN l : Int) == 0
def lvl (l : List Int) (s : Nat) : Option Nat := (List.range (hN l + 1)).find? fun k => okW l s k
def lvlI (l : List Int) (s : Nat) : Int := match lvl l s with | some k => k | none => -1
theorem lvl_some {l : List Int} {s k : Nat} (hk : k ≤ hN l) (h : okW l s k = true) (hb : ∀ j, j < k → okW l s j = false) : lvl l s = some k := by
  unfold lvl
  rw [List.find?_range_eq_some]
  exact ⟨h, by simp; omega, fun j hj => by rw [hb j hj]; rfl⟩
theorem lvl_none {l : List Int} {s : Nat} (hb : ∀ j, j ≤ hN l → okW l s j = false) : lvl l s = none := by
  unfold lvl
  rw [List.find?_eq_none]
  intro j hj
  rw [hb j (by simp at hj; omega)]
  exact Bool.false_ne_true
theorem lvl_is {l : List Int} {s k : Nat} (h : lvl l s = some k) : k ≤ hN l ∧ okW l s k = true ∧ ∀ j, j < k → okW l s j = false := by
  unfold lvl at h
  rw [List.find?_range_eq_some] at h
  exact ⟨by have := h.2.1; simp at this; omega, h.1, fun j hj => by simpa using h.2.2 j hj⟩
theorem lvl_not {l : List Int} {s : Nat} (h : lvl l s = none) : ∀ j, j ≤ hN l → okW l s j = false := by
  unfold lvl at h
  rw [List.find?_eq_none] at h
  intro j hj
  have := h j (by simp; omega)
  simpa using this
end Go.Proofs.YtlaegahdignphaaDoor.M3
