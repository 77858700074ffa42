/- Walks of the arrays with gaps: all that is occupied, gone through. -/
import Derived.Test.YtbjkncgpoengaaaDoorG7
import Derived.RangeFuncBox
import Derived.RangeFuncNested
import Derived.RangeFuncBound
import Derived.RangeFuncCalls
import Derived.RangeFuncLeaves
import Derived.Shelf.Abstract
import Derived.Shelf.RegionOpen
import Derived.OwnWalkIn
import Derived.TacticsInMore
import Derived.LoopNIn
import Derived.LoopIn
import Derived.Maps.AppendAt
namespace Go.Proofs.YtbjkncgpoengaaaDoor.G8
open Go.RowKit Go.Shelf Go.Proofs.YtbjkncgpoengaaaDoorW.PrintWords Go.Proofs.YtbjkncgpoengaaaDoorW.PrintLast Go.Proofs.YtbjkncgpoengaaaDoorW.PrintMore G1 G0 Q1 G2 G3 G4 G5 G6 G7
set_option linter.unusedVariables false
set_option linter.unusedSimpArgs false
attribute [local go_sem] Oper.semAt_some

/-- The occupied slots up to one, with what they hold. -/
def ons (f : Nat → Bool) (xs : List Int) (k : Nat) : List (Nat × Int) := ((List.range k).filter f).map fun i => (i, xs.getD i 0)
theorem ons_zero (f : Nat → Bool) (xs : List Int) : ons f xs 0 = [] := rfl
theorem ons_succ (f : Nat → Bool) (xs : List Int) (k : Nat) : ons f xs (k + 1) = ons f xs k ++ if f k then [(k, xs.getD k 0)] else [] := by
  unfold ons
  rw [List.range_succ, List.filter_append, List.map_append]
  congr 1
  by_cases h : f k = true
  · simp [h]
  · simp [h]
theorem ons_skip {f : Nat → Bool} {xs : List Int} {a : Nat} : ∀ {b : Nat}, a ≤ b → (∀ j, a ≤ j → j < b → f j = false) → ons f xs b = ons f xs a := by
  intro b
  induction b with
  | zero => intro h _; rw [show a = 0 by omega]
  | succ b ih =>
    intro h hf
    by_cases e : a = b + 1
    · rw [e]
    · rw [ons_succ, hf b (by omega) (by omega), ih (by omega) (fun j h1 h2 => hf j h1 (by omega))]
      simp
theorem ons_length (f : Nat → Bool) (xs : List Int) : ∀ k, (ons f xs k).length = cntF f k := by
  intro k
  induction k with
  | zero => rfl
  | succ k ih =>
    rw [ons_succ, List.length_append, ih]
    simp only [cntF]
    split <;> simp
/-- What Next tells, either way. -/
theorem next_cases (f : Nat → Bool) (n j : Nat) (hj : j ≤ n) : (nextI f n (j : Int) = -1 ∧ ∀ t, j ≤ t → t < n → f t = false) ∨ ∃ t : Nat, nextI f n (j : Int) = (t : Int) ∧ j ≤ t ∧ t < n ∧ f t = true ∧ ∀ k, j ≤ k → k < t → f k = false := by
  have key : ∀ d j, d + j = n → (∀ t, j ≤ t → t < n → f t = false) ∨ ∃ t, j ≤ t ∧ t < n ∧ f t = true ∧ ∀ k, j ≤ k → k < t → f k = false := by
    intro d
    induction d with
    | zero => intro j h; exact .inl fun t h1 h2 => by omega
    | succ d ih =>
      intro j h
      by_cases hf : f j = true
      · exact .inr ⟨j, Nat.le_refl _, by omega, hf, fun k h1 h2 => by omega⟩
      · have hf2 : f j = false := by simpa using hf
        rcases ih (j + 1) (by omega) with h1 | ⟨t, h1, h2, h3, h4⟩
        · exact .inl fun t ht ht2 => by
            by_cases e : t = j
            · rw [e]; exact hf2
            · exact h1 t (by omega) ht2
        · exact .inr ⟨t, by omega, h2, h3, fun k hk hk2 => by
            by_cases e : k = j
            · rw [e]; exact hf2
            · exact h4 k (by omega) hk2⟩
  rcases key (n - j) j (by omega) with h | ⟨t, h1, h2, h3, h4⟩
  · exact .inl ⟨next_none (fun k h1 h2 => h k (by omega) h2), h⟩
  · exact .inr ⟨t, next_is h3 (by omega) h2 (fun k h5 h6 => h4 k (by omega) h6), h1, h2, h3, h4⟩
/-- How many are still to come. -/
def leftM (n : Nat) : Value → Nat
  | .int _ (.ofNat t) => n - t
  | _ => 0
theorem leftM_none (n : Nat) : leftM n (.int .i64 (-1)) = 0 := rfl
theorem leftM_at (n t : Nat) : leftM n (.int .i64 (t : Int)) = n - t := rfl
/-- Blocks that stay. -/
theorem cntF_up (f : Nat → Bool) (a : Nat) : ∀ d, cntF f a ≤ cntF f (a + d)
  | 0 => Nat.le_refl _
  | d + 1 => Nat.le_trans (cntF_up f a d) (by show cntF f (a + d) ≤ cntF f (a + d) + _; omega)
theorem cntF_lt {f : Nat → Bool} {t : Nat} (hf : f t = true) {j n : Nat} (h2 : j ≤ t) (h3 : t < n) : cntF f j < cntF f n := by
  have h1 := cntF_up f j (t - j)
  have h4 := cntF_up f (t + 1) (n - (t + 1))
  rw [show j + (t - j) = t by omega] at h1
  rw [show t + 1 + (n - (t + 1)) = n by omega] at h4
  have h5 : cntF f (t + 1) = cntF f t + (if f t then 1 else 0) := rfl
  rw [hf, if_pos rfl] at h5
  omega
def Stay (K : List Nat) (A B : World) : Prop := ∀ k ∈ K, B.heap[k]? = A.heap[k]?
theorem Stay.refl (K : List Nat) (A : World) : Stay K A A := fun _ _ => rfl
theorem Stay.trans {K : List Nat} {A B C : World} (h : Stay K A B) (k : Stay K B C) : Stay K A C := fun i hi => (k i hi).trans (h i hi)
theorem Stay.of_below {K : List Nat} {A B : World} (h : Below A.heap.size A B) (hK : ∀ k ∈ K, k < A.heap.size) : Stay K A B := fun i hi => h.block i (hK i hi)
theorem SlAt.stay {w w' : World} {p sb ob wb n : Nat} {f : Nat → Bool} {xs : List Int} {vs : List Nat} (h : SlAt w p sb ob wb n f xs vs) {K : List Nat} (hs : Stay K w w') (h1 : p ∈ K) (h2 : sb ∈ K) (h3 : ob ∈ K) (h4 : wb ∈ K) : SlAt w' p sb ob wb n f xs vs :=
  ⟨(hs p h1).trans h.hp, (hs sb h2).trans h.hs, h.len, ⟨h.bits.low, h.bits.high, (hs ob h3).trans h.bits.ho, (hs wb h4).trans h.bits.hw, h.bits.len, h.bits.small, h.bits.bit, h.bits.out⟩⟩
theorem Tb_stay {w w' : World} (h : Tb w) (hs : w'.heap[0]? = w.heap[0]?) : Tb w' := by
  refine ⟨h.1, h.2.1, fun hp => ?_⟩
  obtain ⟨ad, e, hc⟩ := h.2.2 hp
  cases e
  refine ⟨_, rfl, fun j p hj => ?_⟩
  obtain ⟨cs, h1, h2, h3⟩ := hc j p hj
  refine ⟨cs, h1, h2, fun i u hu => ?_⟩
  have := h3 i u hu
  have e : ∀ m, w'.cell? ((⟨0, 0, none⟩ : Addr).add m) = w.cell? ((⟨0, 0, none⟩ : Addr).add m) := by
    intro m
    rw [add_plain]
    simp [World.cell?, hs]
  rw [e]
  exact this
set_option maxRecDepth 100000 in
set_option maxHeartbeats 2000000 in
/-- **All's function, for every body that keeps the array's blocks.** -/
theorem all1_in (m : Nat) (hm : 1 ≤ m) (l Bn : Nat) {p sb ob wb n : Nat} {f : Nat → Bool} {xs : List Int} {vs : List Nat} (K : List Nat) (hK : Bn ∈ K ∧ p ∈ K ∧ sb ∈ K ∧ ob ∈ K ∧ wb ∈ K ∧ 0 ∈ K) (J Jx : List (Nat × Int) → World → Prop)
    (hJ : ∀ pre W W', J pre W → (∃ d, W' = W.drewN d) → J pre W')
    (hY : ∀ pre x W, J pre W → pre.length < cntF f n → YieldAt Fence.wide (m - 1) Tryd.prog l #[.int .i64 (x.1 : Int), .int .i64 x.2] W fun e W' =>
      (e = .returned (.bool true) ∧ J (pre ++ [x]) W' ∧ Stay K W W') ∨ (e = .returned (.bool false) ∧ Jx (pre ++ [x]) W'))
    (W : World) (hB : W.heap[Bn]? = some (.cells #[.pointer (some ⟨p, 0, none⟩)] 24 (0, 0))) (hS : SlAt W p sb ob wb n f xs vs) (hT : Tb W) (h0 : J [] W) :
    CallsIn Fence.wide m Tryd.prog 57 #[.func (.yield l) #[] #[], .pointer (some ⟨Bn, 0, none⟩)] W fun e W' => (∃ v, e = .returned v) ∧
      ((∃ ys, ys = ons f xs n ∧ J ys W') ∨ (∃ pre, (∃ k, k ≤ n ∧ pre = ons f xs k) ∧ Jx pre W')) := by
  have HS := Aside0.mk hS
  have HT := Aside0.mk hT
  have HB := Aside0.mk hB
  have HJ0 := Aside0.mk h0
  have HJ := Aside0.mk hJ
  have HY := Aside0.mk hY
  have HK := Aside0.mk hK
  have hn := hS.bits.high
  have c0 : W.cell? ⟨Bn, 0, none⟩ = some (.pointer (some ⟨p, 0, none⟩)) := (blk_cell hB 0).trans rfl
  have N0 := Aside0.mk (snext_any hS hT 0)
  clear hS hT hB h0 hJ hY hK
  refine callsIn_of_wp Tryd.func57 rfl trivial ?_ rfl
  simp only [Tryd.ntmps57, List.size_toArray, List.length_cons, List.length_nil, Nat.reduceAdd, Nat.reduceSub, Array.replicate_succ, Array.replicate_zero, List.push_toArray, List.append_toArray, List.nil_append, List.cons_append]
  gi_wp2_with (refine ⟨trivial, ?_⟩; gi_at_call 46; refine (callsIn_wide.2 N0.out).mono ?_; rintro e w1 ⟨rfl, hw⟩; have HW := Aside0.mk hw; clear hw)
  have HJ1 := Aside0.mk (HJ.out _ _ _ HJ0.out HW.out.out)
  have HS1 := Aside0.mk (HS.out.below HW.out.below)
  have HT1 := Aside0.mk (Kd.C_below HT.out HW.out.below)
  have HB1 := Aside0.mk (blk_below HB.out HW.out.below)
  clear c0 N0 HJ0 HS HT HB
  gi_loopw [3] (fun i wr => ∃ j : Nat, j ≤ n ∧ i = .int .i64 (nextI f n (j : Int)) ∧ Aside0 (J (ons f xs j) wr) ∧ Aside0 (SlAt wr p sb ob wb n f xs vs) ∧ Aside0 (Tb wr) ∧ Aside0 (wr.heap[Bn]? = some (.cells #[.pointer (some ⟨p, 0, none⟩)] 24 (0, 0))))
    (fun i _ => leftM n i)
  case atStart => exact ⟨0, by omega, rfl, by rw [ons_zero]; exact HJ1, HS1, HT1, HB1⟩
  case round =>
    clear HJ1 HS1 HT1 HB1 HW
    obtain ⟨j, hj, rfl, HJ1, HS, HT, HB⟩ := hrel
    have c0 : (_ : Option Value) = some (.pointer (some ⟨p, 0, none⟩)) := (blk_cell HB.out 0).trans rfl
    rcases next_cases f n j hj with ⟨e1, h2⟩ | ⟨t, e1, h2, h3, h4, h5⟩
    · rw [e1]
      have HE := Aside0.mk (ons_skip (xs := xs) hj h2)
      clear e1 h2
      gi_wp2
      go_end0
      exact ⟨⟨_, rfl⟩, .inl ⟨_, rfl, by rw [HE.out]; exact HJ1.out⟩⟩
    · rw [e1]
      have HE := Aside0.mk (ons_skip (xs := xs) h2 h5)
      have c1 := HS.out.c0
      have c2 := HS.out.cell h3
      have HH4 := Aside0.mk h4
      have HE1 := Aside0.mk e1
      clear e1 h5 h4
      obtain ⟨fn, tmps, assign, body, hy, hR⟩ := HY.out _ (t, xs.getD t 0) _ HJ1.out (by rw [ons_length]; exact cntF_lt HH4.out h2 h3)
      dsimp only at hy
      have HR := Aside0.mk hR
      clear hR
      generalize hx : xs.getD t 0 = x at *
      gi_wp2
      have ES : Aside0 (ons f xs (t + 1) = ons f xs j ++ [(t, x)]) := ⟨by rw [ons_succ, HE.out, HH4.out, hx]; rfl⟩
      refine HR.out.mono ?_
      rintro e W3 (⟨rfl, hJ3, hk3⟩ | ⟨rfl, hJx3⟩)
      · have HS3 := Aside0.mk (SlAt.stay HS.out hk3 HK.out.2.1 HK.out.2.2.1 HK.out.2.2.2.1 HK.out.2.2.2.2.1)
        have HT3 := Aside0.mk (Tb_stay HT.out (hk3 0 HK.out.2.2.2.2.2))
        have HB3 := Aside0.mk ((hk3 Bn HK.out.1).trans HB.out)
        have HJ3 := Aside0.mk hJ3
        have d0 : W3.cell? ⟨Bn, 0, none⟩ = some (.pointer (some ⟨p, 0, none⟩)) := (blk_cell HB3.out 0).trans rfl
        have N3 := Aside0.mk (snext_any HS3.out HT3.out ((t : Int) + 1))
        clear hJ3 hk3 c0 c1 c2 HS HT HB HJ1 HR
        gi_wp2_with (refine ⟨trivial, ?_⟩; gi_at_call 46; refine (callsIn_wide.2 N3.out).mono ?_; rintro e w1 ⟨rfl, hw⟩; have HW := Aside0.mk hw; clear hw)
        go_roundw
        case rel => exact ⟨t + 1, by omega, by simp, ⟨by rw [ES.out]; exact HJ.out _ _ _ HJ3.out HW.out.out⟩, ⟨HS3.out.below HW.out.below⟩, ⟨Kd.C_below HT3.out HW.out.below⟩, ⟨blk_below HB3.out HW.out.below⟩⟩
        case measure =>
          rcases next_cases f n (t + 1) (by omega) with ⟨e1, _⟩ | ⟨t2, e1, g2, g3, _, _⟩
          · rw [show ((t : Int) + 1) = ((t + 1 : Nat) : Int) by omega, e1]
            rw [leftM_none, leftM_at]
            omega
          · rw [show ((t : Int) + 1) = ((t + 1 : Nat) : Int) by omega, e1]
            rw [leftM_at, leftM_at]
            omega
      · have HX := Aside0.mk hJx3
        clear hJx3 c0 c1 c2
        gi_wp2
        refine bodyPost_ret (results_none rfl _ _ _) rfl ?_
        exact ⟨⟨_, rfl⟩, .inr ⟨_, ⟨t + 1, by omega, rfl⟩, by rw [ES.out]; exact HX.out⟩⟩
end Go.Proofs.YtbjkncgpoengaaaDoor.G8
