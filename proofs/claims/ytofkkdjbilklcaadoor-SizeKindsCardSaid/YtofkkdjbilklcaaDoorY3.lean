/- What the document's spread computes: its places are those of the spread. -/
import Derived.Test.YtofkkdjbilklcaaDoorY1
namespace Go.Proofs.YtofkkdjbilklcaaDoor.Y3
open Go.RowKit Go.Shelf Go.Proofs.YtofkkdjbilklcaaDoorW.PrintWords Go.Proofs.YtofkkdjbilklcaaDoorW.PrintLast Go.Proofs.YtofkkdjbilklcaaDoorW.PrintMore Q1 S1 Y1
set_option linter.unusedVariables false
set_option linter.unusedSimpArgs false
def shrL (n s : Nat) : List Int := (List.range s).map fun k => (shr n s k : Int)
/-- How many of the first i numbers, times s, are no more than x. -/
theorem cnt_step {x s i c : Nat} (hs : 0 < s) (h : c = min i (x / s)) : (if (i + 1) * s ≤ x then c + 1 else c) = min (i + 1) (x / s) := by
  have := Nat.le_div_iff_mul_le hs (x := i + 1) (y := x)
  split
  · rename_i h1
    have := this.2 h1
    omega
  · rename_i h1
    have : ¬ i + 1 ≤ x / s := fun h2 => h1 (this.1 h2)
    omega
theorem ahead_loop {n s k : Nat} (hs : 0 < s) (hs2 : s ≤ 512) (hn : n ≤ 4096) (hk : k ≤ 512) : ∀ d i : Nat, i + d = n → Ev (fun q => punnetref04_Ahead.l0 q (n : Int) (s : Int) (k : Int) ((min i (k * n / s) : Nat) : Int) ((i + 1 : Nat) : Int)) ((min n (k * n / s) : Nat) : Int)
  | 0, i, e => by
    obtain rfl : i = n := by omega
    refine Ev.step (f := fun _ => some ((min i (k * i / s) : Nat) : Int)) (fun q => ?_) (Ev.now _)
    show (if (_ : Int) ≤ _ then _ else _) = _
    rw [if_neg (by omega)]
  | d + 1, i, e => by
    have ih := ahead_loop hs hs2 hn hk d (i + 1) (by omega)
    refine Ev.step (fun q => ?_) ih
    show (if (_ : Int) ≤ _ then _ else _) = _
    have hm : (i + 1) * s ≤ 4096 * 512 := Nat.mul_le_mul (by omega) hs2
    have hm2 : k * n ≤ 512 * 4096 := Nat.mul_le_mul hk hn
    have e1 : ((i + 1 : Nat) : Int) * (s : Int) = (((i + 1) * s : Nat) : Int) := (Int.natCast_mul _ _).symm
    have e2 : (k : Int) * (n : Int) = ((k * n : Nat) : Int) := (Int.natCast_mul _ _).symm
    have hst := cnt_step (x := k * n) (i := i) hs rfl
    rw [if_pos (by omega), e1, e2, w64 (x := (((i + 1) * s : Nat) : Int)) (by omega) (by omega), w64 (x := ((k * n : Nat) : Int)) (by omega) (by omega), w64 (x := ((i + 1 : Nat) : Int) + 1) (by omega) (by omega)]
    by_cases h1 : (i + 1) * s ≤ k * n
    · rw [if_pos h1] at hst
      rw [if_pos (by omega), w64 (by omega) (by omega), ← hst]
      rfl
    · rw [if_neg h1] at hst
      rw [if_neg (by omega), ← hst]
      rfl
theorem ahead_ev {n s k : Nat} (hs : 0 < s) (hs2 : s ≤ 512) (hn : n ≤ 4096) (hk : k ≤ s) : Ev (fun q => punnetref04_Ahead.f q (n : Int) (s : Int) (k : Int)) ((k * n / s : Nat) : Int) := by
  have h := ahead_loop (n := n) (s := s) (k := k) hs hs2 hn (by omega) n 0 (by omega)
  have h1 : k * n / s ≤ n := by
    have : k * n ≤ s * n := Nat.mul_le_mul_right n hk
    calc k * n / s ≤ s * n / s := Nat.div_le_div_right this
      _ = n := Nat.mul_div_cancel_left n hs
  rw [Nat.min_eq_right h1, Nat.zero_min] at h
  exact h
theorem shares_loop {n s : Nat} (hs : 0 < s) (hs2 : s ≤ 512) (hn : n ≤ 4096) : ∀ d k : Nat, k + d = s → Ev (fun q => punnetref04_Shares.l0 q (n : Int) (s : Int) ((List.range k).map fun k => (shr n s k : Int)) (k : Int)) (shrL n s)
  | 0, k, e => by
    obtain rfl : k = s := by omega
    refine Ev.step (f := fun _ => some (shrL n k)) (fun q => ?_) (Ev.now _)
    show (if (_ : Int) < _ then _ else _) = _
    rw [if_neg (by omega)]
    rfl
  | d + 1, k, e => by
    have ih := shares_loop hs hs2 hn d (k + 1) (by omega)
    refine Ev.step (f := fun q => (punnetref04_Ahead.f q (n : Int) (s : Int) (wrap64 ((k : Int) + 1))).bind fun t129 => (punnetref04_Ahead.f q (n : Int) (s : Int) (k : Int)).bind fun t130 => if ((List.range k).map fun k => (shr n s k : Int)).length < 17592186044416 then punnetref04_Shares.l0 q (n : Int) (s : Int) (((List.range k).map fun k => (shr n s k : Int)) ++ [wrap64 (t129 - t130)]) (wrap64 ((k : Int) + 1)) else none) (fun q => ?_) ?_
    · show (if (_ : Int) < _ then _ else _) = _
      rw [if_pos (by omega)]
    · rw [w64 (x := (k : Int) + 1) (by omega) (by omega), show (k : Int) + 1 = ((k + 1 : Nat) : Int) by omega]
      have h1 := ahead_ev (n := n) (s := s) (k := k + 1) hs hs2 hn (by omega)
      have h2 := ahead_ev (n := n) (s := s) (k := k) hs hs2 hn (by omega)
      have hb1 : (k + 1) * n ≤ 512 * 4096 := Nat.mul_le_mul (by omega) hn
      have hb2 : (k + 1) * n / s ≤ (k + 1) * n := Nat.div_le_self _ _
      have hle := shr_le (n := n) (s := s) (k := k) (by omega)
      refine Ev.bind (f := fun q t129 => (punnetref04_Ahead.f q (n : Int) (s : Int) (k : Int)).bind fun t130 => if ((List.range k).map fun k => (shr n s k : Int)).length < 17592186044416 then punnetref04_Shares.l0 q (n : Int) (s : Int) (((List.range k).map fun k => (shr n s k : Int)) ++ [wrap64 (t129 - t130)]) ((k + 1 : Nat) : Int) else none) h1 ?_
      refine Ev.bind (f := fun q t130 => if ((List.range k).map fun k => (shr n s k : Int)).length < 17592186044416 then punnetref04_Shares.l0 q (n : Int) (s : Int) (((List.range k).map fun k => (shr n s k : Int)) ++ [wrap64 (((((k + 1) * n / s : Nat) : Int)) - t130)]) ((k + 1 : Nat) : Int) else none) h2 ?_
      have p1 : (0 : Int) ≤ (((k + 1) * n / s : Nat) : Int) := Int.natCast_nonneg _
      have p2 : (0 : Int) ≤ ((k * n / s : Nat) : Int) := Int.natCast_nonneg _
      refine Ev.congr (fun q => if_pos (by simp; omega)) ?_
      rw [w64 (by omega) (by omega)]
      have e2 : ((List.range k).map fun k => (shr n s k : Int)) ++ [((((k + 1) * n / s : Nat) : Int)) - ((k * n / s : Nat) : Int)] = (List.range (k + 1)).map fun k => (shr n s k : Int) := by
        rw [List.range_succ, List.map_append]
        simp only [List.map_cons, List.map_nil]
        congr 2
        unfold Y1.shr
        omega
      rw [e2]
      exact ih

theorem off_small : ∀ m : Nat, m < 9 → ∀ j : Nat, j < m → punnetref04_Offset.f 20 (j : Int) (m : Int) = some (((j : Int) * 8) / (m : Int)) := by decide +kernel
theorem shr_8 {n s k : Nat} (hs : 1 ≤ s) (h3 : n ≤ 8 * s) : shr n s k ≤ 8 := by
  unfold Y1.shr
  have h : (k + 1) * n = k * n + n := Nat.succ_mul k n
  have h1 : (k * n + n) / s ≤ (k * n + 8 * s) / s := Nat.div_le_div_right (by omega)
  rw [Nat.add_mul_div_right _ _ (by omega)] at h1
  rw [h]
  omega
theorem rd_shrL {n s k : Nat} (hk : k < s) : rd (shrL n s) (k : Int) = (shr n s k : Int) := by
  show (shrL n s).getD k 0 = _
  simp [shrL, List.getD_eq_getElem?_getD, hk]
theorem shI_eq {n s k : Nat} (hs : 1 ≤ s) : shI n s k = (shr n s k : Int) := by
  have := shr_le (n := n) (k := k) hs
  unfold shI Y1.shr
  omega
theorem pl_inner {n s f k : Nat} (hs : 1 ≤ s) (hs2 : s ≤ 512) (h3 : n ≤ 8 * s) (hf : f ≤ 512) (hk : k < s) {T : List Int} (hT : Ev (fun q => punnetref04_Places.l0 q (f : Int) (plK n s f (k + 1)) (shrL n s) ((k + 1 : Nat) : Int)) T) :
    ∀ d j : Nat, j + d = shr n s k → Ev (fun q => punnetref04_Places.l1 q (f : Int) (plK n s f k ++ plJ n s f k j) (shrL n s) (k : Int) (j : Int)) T
  | 0, j, e => by
    refine Ev.step (fun q => ?_) hT
    show (if (0 : Int) ≤ (k : Int) then _ else _) = _
    rw [if_pos (by omega), if_pos (by simp [shrL]; omega), rd_shrL hk, if_neg (by omega), w64 (by omega) (by omega), show j = shr n s k by omega, show (k : Int) + 1 = ((k + 1 : Nat) : Int) by omega]
    rfl
  | d + 1, j, e => by
    have ih := pl_inner hs hs2 h3 hf hk hT d (j + 1) (by omega)
    have h8 := shr_8 (k := k) hs h3
    have ho := off_small (shr n s k) (by omega) j (by omega)
    have hE := Ev.of (fun q => punnetref04_Offset.mono (j : Int) (shr n s k : Int) q) ho
    have b1 : (0 : Int) ≤ (j : Int) * 8 / (shr n s k : Int) := Int.ediv_nonneg (by omega) (by omega)
    have b2 : (j : Int) * 8 / (shr n s k : Int) ≤ (j : Int) * 8 := Int.ediv_le_self _ (by omega)
    have hlen := plK_len (n := n) f hs k
    have htop := div_top (n := n) (k := k) hs (by omega)
    refine Ev.step (f := fun q => (punnetref04_Offset.f q (j : Int) (shr n s k : Int)).bind fun t => if (plK n s f k ++ plJ n s f k j).length < 17592186044416 then punnetref04_Places.l1 q (f : Int) ((plK n s f k ++ plJ n s f k j) ++ [wrap64 ((wrap64 (8 * (wrap64 ((f : Int) + (k : Int))))) + t)]) (shrL n s) (k : Int) (wrap64 ((j : Int) + 1)) else none) (fun q => ?_) ?_
    · show (if (0 : Int) ≤ (k : Int) then _ else _) = _
      rw [if_pos (by omega), if_pos (by simp [shrL]; omega), rd_shrL hk, if_pos (by omega)]
    · refine Ev.bind (f := fun q t => if (plK n s f k ++ plJ n s f k j).length < 17592186044416 then punnetref04_Places.l1 q (f : Int) ((plK n s f k ++ plJ n s f k j) ++ [wrap64 ((wrap64 (8 * (wrap64 ((f : Int) + (k : Int))))) + t)]) (shrL n s) (k : Int) (wrap64 ((j : Int) + 1)) else none) hE ?_
      refine Ev.congr (fun q => if_pos (by rw [List.length_append, hlen, plJ_len]; omega)) ?_
      rw [w64 (x := (f : Int) + (k : Int)) (by omega) (by omega), w64 (x := 8 * ((f : Int) + (k : Int))) (by omega) (by omega), w64 (by omega) (by omega), w64 (x := (j : Int) + 1) (by omega) (by omega), show (j : Int) + 1 = ((j + 1 : Nat) : Int) by omega]
      have ev : 8 * ((f : Int) + (k : Int)) + (j : Int) * 8 / (shr n s k : Int) = plV n s f k j := by unfold plV; rw [shI_eq hs]
      rw [ev, List.append_assoc, ← plJ_succ]
      exact ih
theorem pl_outer {n s f : Nat} (hs : 1 ≤ s) (hs2 : s ≤ 512) (h3 : n ≤ 8 * s) (hf : f ≤ 512) : ∀ d k : Nat, k + d = s → Ev (fun q => punnetref04_Places.l0 q (f : Int) (plK n s f k) (shrL n s) (k : Int)) (plK n s f s)
  | 0, k, e => by
    obtain rfl : k = s := by omega
    refine Ev.step (f := fun _ => some (plK n k f k)) (fun q => ?_) (Ev.now _)
    show (if (_ : Int) < _ then _ else _) = _
    rw [if_neg (by simp [shrL])]
  | d + 1, k, e => by
    have ih := pl_outer hs hs2 h3 hf d (k + 1) (by omega)
    have hi := pl_inner hs hs2 h3 hf (show k < s by omega) ih (shr n s k) 0 (by omega)
    rw [show plJ n s f k 0 = [] from rfl, List.append_nil] at hi
    refine Ev.step (fun q => ?_) hi
    show (if (_ : Int) < _ then _ else _) = _
    rw [if_pos (by simp [shrL]; omega)]
    rfl
theorem pl_ev {n s f : Nat} (hs : 1 ≤ s) (hs2 : s ≤ 512) (h3 : n ≤ 8 * s) (hf : f ≤ 512) : Ev (fun q => punnetref04_Places.f q (n : Int) (f : Int) (s : Int)) (plK n s f s) := by
  unfold punnetref04_Places.f
  refine Ev.bind (f := fun q t => punnetref04_Places.l0 q (f : Int) [] t 0) (a := shrL n s) ?_ (pl_outer hs hs2 h3 hf s 0 (by omega))
  exact shares_loop (n := n) (s := s) (by omega) hs2 (by omega) s 0 (by omega)
end Go.Proofs.YtofkkdjbilklcaaDoor.Y3
