/- The chapter's example of the search; the law FindSearches walked. -/
import Derived.Test.YtbjkncgpoengaaaDoorF5
import Derived.Test.YtbjkncgpoengaaaDoorG12
namespace Go.Proofs.YtbjkncgpoengaaaDoor.F6
open Go.RowKit Go.Proofs.YtbjkncgpoengaaaDoorW.PrintWords Go.Proofs.YtbjkncgpoengaaaDoorW.PrintLast Go.Proofs.YtbjkncgpoengaaaDoorW.PrintMore G1 G0 Q1 G2 G3 G4 G5 G6 G7 G8 G9 G10 G11 F1 F2 S1 F4 F5
set_option linter.unusedVariables false
set_option linter.unusedSimpArgs false

theorem most8 : ∃ k, find_Most.f k 8 = some 4 := ⟨20, by decide +kernel⟩
def a0 : Gap := gap0 8
def a1 : Gap := putS 8 a0 0 2
def a2 : Gap := putS 8 a1 5 4
def a3 : Gap := putS 8 a2 6 6
set_option maxHeartbeats 1000000 in
theorem awake_any (w : World) (hT : Tb w) : Calls Tryd.prog 34 #[] w fun e w' => e = .returned (.bool true) ∧ Below w.heap.size w w' := by
  have HT := Aside0.mk hT
  have R1 := Aside0.mk (show putR 8 a0 0 = 0 by decide)
  have R2 := Aside0.mk (show putR 8 a1 5 = 0 by decide)
  have R3 := Aside0.mk (show putR 8 a2 6 = 0 by decide)
  have S1 := Aside0.mk (show srch a3.on a3.xs 8 (lt_ 4) = (5, 2) by decide +kernel)
  have S2 := Aside0.mk (show srch a3.on a3.xs 8 (le_ 4) = (6, 2) by decide +kernel)
  have S3 := Aside0.mk (show befR a3.on a3.xs 8 4 = (0, 2) by decide +kernel)
  have S4 := Aside0.mk (show exaR a3.on a3.xs 8 5 = (-1, 3) by decide +kernel)
  have S5 := Aside0.mk (show srch a3.on a3.xs 8 (lt_ 7) = (-1, 2) by decide +kernel)
  clear hT
  go_enter Tryd.func34, Tryd.ntmps34
  go_wp2_with fail
  refine (gnew_yes 8 w (by decide) (by decide)).mono ?_
  rintro e w1 ⟨p, sb, ob, wb, rfl, hb4, hS, hB⟩
  have HS : Aside0 (Sep w w1 [Arr p sb ob wb 8 a0]) := ⟨(Sep.nil w).new_arr (s := a0) hB ⟨_, hS⟩ hb4⟩
  clear hb4 hS hB
  have C := put_any (HS.out.arr 0 rfl) 0 2
  rw [R1.out] at C
  have C := Aside0.mk C
  go_wp2_with fail
  refine C.out.mono ?_
  clear C
  rintro e w2 ⟨rfl, hs, ho⟩
  replace HS : Aside0 (Sep w _ [Arr p sb ob wb 8 a1]) := ⟨HS.out.turn_arr 0 rfl ho hs⟩
  clear hs ho
  have C := put_any (HS.out.arr 0 rfl) 5 4
  rw [R2.out] at C
  have C := Aside0.mk C
  go_wp2_with fail
  refine C.out.mono ?_
  clear C
  rintro e w3 ⟨rfl, hs, ho⟩
  replace HS : Aside0 (Sep w _ [Arr p sb ob wb 8 a2]) := ⟨HS.out.turn_arr 0 rfl ho hs⟩
  clear hs ho
  have C := put_any (HS.out.arr 0 rfl) 6 6
  rw [R3.out] at C
  have C := Aside0.mk C
  go_wp2_with fail
  refine C.out.mono ?_
  clear C
  rintro e w4 ⟨rfl, hs, ho⟩
  replace HS : Aside0 (Sep w _ [Arr p sb ob wb 8 a3]) := ⟨HS.out.turn_arr 0 rfl ho hs⟩
  clear hs ho
  obtain ⟨vs, hs⟩ := HS.out.arr 0 rfl
  have C := lower_any hs (Kd.C_below HT.out HS.out.below) 4
  rw [S1.out] at C
  have C := Aside0.mk C
  clear hs
  go_wp2_with fail
  refine C.out.mono ?_
  clear C
  rintro e w5 ⟨rfl, hw⟩
  replace HS := Aside0.mk (HS.out.step hw)
  clear hw
  obtain ⟨vs, hs⟩ := HS.out.arr 0 rfl
  have C := upper_any hs (Kd.C_below HT.out HS.out.below) 4
  rw [S2.out] at C
  have C := Aside0.mk C
  clear hs
  go_wp2_with fail
  refine C.out.mono ?_
  clear C
  rintro e w6 ⟨rfl, hw⟩
  replace HS := Aside0.mk (HS.out.step hw)
  clear hw
  obtain ⟨vs, hs⟩ := HS.out.arr 0 rfl
  have C := before_any hs (Kd.C_below HT.out HS.out.below) 4
  rw [S3.out] at C
  have C := Aside0.mk C
  clear hs
  go_wp2_with fail
  refine C.out.mono ?_
  clear C
  rintro e w7 ⟨rfl, hw⟩
  replace HS := Aside0.mk (HS.out.step hw)
  clear hw
  obtain ⟨vs, hs⟩ := HS.out.arr 0 rfl
  have C := exact_any hs (Kd.C_below HT.out HS.out.below) 5
  rw [S4.out] at C
  have C := Aside0.mk C
  clear hs
  go_wp2_with fail
  refine C.out.mono ?_
  clear C
  rintro e w8 ⟨rfl, hw⟩
  replace HS := Aside0.mk (HS.out.step hw)
  clear hw
  obtain ⟨vs, hs⟩ := HS.out.arr 0 rfl
  have C := lower_any hs (Kd.C_below HT.out HS.out.below) 7
  rw [S5.out] at C
  have C := Aside0.mk C
  clear hs
  go_wp2_with fail
  refine C.out.mono ?_
  clear C
  rintro e w9 ⟨rfl, hw⟩
  replace HS := Aside0.mk (HS.out.step hw)
  clear hw
  obtain ⟨k, hk⟩ := most8
  have C := Aside0.mk (find_Most.calls k 8 4 w9 hk)
  clear hk
  go_wp2_with fail
  refine C.out.mono ?_
  rintro e w10 ⟨rfl, hw⟩
  replace HS := Aside0.mk (HS.out.step hw)
  clear hw C
  go_wp2
  go_ret
  exact ⟨rfl, HS.out.below⟩
/-- Where nothing is made. -/
theorem law_no (n : Int) (A : Option Addr) (c : Nat) (l : List Ky) (key : Int) (w : World) (hT : Tb w) (h : n < 1 ∨ 5000 < n ∨ 300 < l.length) :
    Calls Tryd.prog 6 #[.agg #[.int .i64 n, .slice A l.length c], .int .i64 key] w fun e w' => e = .returned (.bool true) ∧ Below w.heap.size w w' := by
  have hb := below_alloc (Below.refl w.heap.size w) (.cells #[.int .i64 n, .slice A l.length c] 63)
  have HB := Aside0.mk hb
  have HT := Aside0.mk hT
  have C := Aside0.mk (made_no n A c l (w.alloc (.cells #[.int .i64 n, .slice A l.length c] 63)) h)
  clear hT hb h
  go_enter Tryd.func6, Tryd.ntmps6
  go_wp2_with fail
  refine C.out.mono ?_
  rintro e w1 ⟨rfl, hw⟩
  replace HB := Aside0.mk (below_step HB.out hw)
  clear hw C
  go_wp2_with fail
  refine (awake_any _ (Kd.C_below HT.out HB.out)).mono ?_
  rintro e w20 ⟨rfl, hw⟩
  replace HB := Aside0.mk (below_step HB.out hw)
  clear hw
  go_wp2
  go_ret
  exact ⟨rfl, HB.out⟩
theorem search_lt {n : Nat} {g : Gap} (hs : n ≤ 100000) (key : Int) : ∃ k, punnetref10_Search.f k (slots n g) key false = some ((srch g.on g.xs n (lt_ key)).1, ((srch g.on g.xs n (lt_ key)).2 : Int)) := ⟨_, search_f hs key false _ (Nat.le_refl _)⟩
theorem search_le {n : Nat} {g : Gap} (hs : n ≤ 100000) (key : Int) : ∃ k, punnetref10_Search.f k (slots n g) key true = some ((srch g.on g.xs n (le_ key)).1, ((srch g.on g.xs n (le_ key)).2 : Int)) := ⟨_, search_f hs key true _ (Nat.le_refl _)⟩
set_option maxHeartbeats 1000000 in
theorem law_yes (n : Nat) (A : Option Addr) (c : Nat) (l : List Ky) (key : Int) (w : World) (hT : Tb w) (hr : Kd.C kKey w A l.length l) (h1 : 1 ≤ n) (h2 : n ≤ 5000) (h3 : l.length ≤ 300) :
    Calls Tryd.prog 6 #[.agg #[.int .i64 n, .slice A l.length c], .int .i64 key] w fun e w' => e = .returned (.bool true) ∧ Below w.heap.size w w' := by
  have hb := below_alloc (Below.refl w.heap.size w) (.cells #[.int .i64 n, .slice A l.length c] 63)
  have HB := Aside0.mk hb
  have HT := Aside0.mk hT
  have C := Aside0.mk (made_yes n A c l (w.alloc (.cells #[.int .i64 n, .slice A l.length c] 63)) (Kd.C_below hr hb) h1 h2 h3)
  clear hT hb hr
  go_enter Tryd.func6, Tryd.ntmps6
  go_wp2_with fail
  refine C.out.mono ?_
  clear C
  rintro e w1 ⟨p, sb, ob, wb, lb, rfl, hS⟩
  generalize layS n l = g at hS
  have HS := Aside0.mk ((Sep.nil w).step HB.out |>.append hS)
  clear hS HB
  obtain ⟨vs, hs⟩ := HS.out.arr 0 rfl
  have C := Aside0.mk (lower_any hs (Kd.C_below HT.out HS.out.below) key)
  clear hs
  go_wp2_with fail
  refine C.out.mono ?_
  clear C
  rintro e w2 ⟨rfl, hw⟩
  replace HS := Aside0.mk (HS.out.step hw)
  clear hw
  obtain ⟨vs, hs⟩ := HS.out.arr 0 rfl
  have C := Aside0.mk (upper_any hs (Kd.C_below HT.out HS.out.below) key)
  clear hs
  go_wp2_with fail
  refine C.out.mono ?_
  clear C
  rintro e w3 ⟨rfl, hw⟩
  replace HS := Aside0.mk (HS.out.step hw)
  clear hw
  obtain ⟨vs, hs⟩ := HS.out.arr 0 rfl
  have C := Aside0.mk (before_any hs (Kd.C_below HT.out HS.out.below) key)
  clear hs
  go_wp2_with fail
  refine C.out.mono ?_
  clear C
  rintro e w4 ⟨rfl, hw⟩
  replace HS := Aside0.mk (HS.out.step hw)
  clear hw
  obtain ⟨vs, hs⟩ := HS.out.arr 0 rfl
  have C := Aside0.mk (exact_any hs (Kd.C_below HT.out HS.out.below) key)
  clear hs
  go_wp2_with fail
  refine C.out.mono ?_
  clear C
  rintro e w5 ⟨rfl, hw⟩
  replace HS := Aside0.mk (HS.out.step hw)
  clear hw
  obtain ⟨k, hk⟩ := search_lt (n := n) (g := g) (by omega) key
  have C := punnetref10_Search.calls k _ n (slots n g) key false _ _ _ (slb_C (HS.out.slb 1 rfl) (by rw [slots_length]; omega)) (by rw [slots_length]; exact Nat.le_refl _) hk
  rw [slots_length] at C
  have C := Aside0.mk C
  clear hk
  go_wp2_with fail
  refine C.out.mono ?_
  clear C
  rintro e w6 ⟨rfl, hw⟩
  replace HS := Aside0.mk (HS.out.step hw.below)
  clear hw
  obtain ⟨k, hk⟩ := search_le (n := n) (g := g) (by omega) key
  have C := punnetref10_Search.calls k _ n (slots n g) key true _ _ _ (slb_C (HS.out.slb 1 rfl) (by rw [slots_length]; omega)) (by rw [slots_length]; exact Nat.le_refl _) hk
  rw [slots_length] at C
  have C := Aside0.mk C
  clear hk
  go_wp2_with fail
  refine C.out.mono ?_
  clear C
  rintro e w7 ⟨rfl, hw⟩
  replace HS := Aside0.mk (HS.out.step hw.below)
  clear hw
  obtain ⟨k, hk⟩ := before_f (n := n) (g := g) (by omega) h1 key
  have C := punnetref10_Before.calls k _ n (slots n g) key _ _ _ (slb_C (HS.out.slb 1 rfl) (by rw [slots_length]; omega)) (by rw [slots_length]; exact Nat.le_refl _) hk
  rw [slots_length] at C
  have C := Aside0.mk C
  clear hk
  go_wp2_with fail
  refine C.out.mono ?_
  clear C
  rintro e w8 ⟨rfl, hw⟩
  replace HS := Aside0.mk (HS.out.step hw.below)
  clear hw
  obtain ⟨k, hk⟩ := exact_f (n := n) (g := g) (by omega) key
  have C := punnetref10_Exact.calls k _ n (slots n g) key _ _ _ (slb_C (HS.out.slb 1 rfl) (by rw [slots_length]; omega)) (by rw [slots_length]; exact Nat.le_refl _) hk
  rw [slots_length] at C
  have C := Aside0.mk C
  clear hk
  go_wp2_with fail
  refine C.out.mono ?_
  clear C
  rintro e w9 ⟨rfl, hw⟩
  replace HS := Aside0.mk (HS.out.step hw.below)
  clear hw
  have HB := Aside0.mk HS.out.below
  go_wp2_with fail
  refine (awake_any _ (Kd.C_below HT.out HB.out)).mono ?_
  rintro e w20 ⟨rfl, hw⟩
  replace HB := Aside0.mk (below_step HB.out hw)
  clear hw
  go_wp2
  go_ret
  exact ⟨rfl, HB.out⟩
theorem law (n : Int) (wn : (Lit.int .i64 n).wf = true) (A : Option Addr) (c : Nat) (l : List Ky) {W0 : World} (g : Kd.C kKey W0 A l.length l) (key : Int) (wk : (Lit.int .i64 key).wf = true) (W : World) (hT : Tb W) (hW : W = W0 := by rfl) :
    Calls Tryd.prog 6 #[.agg #[.int .i64 n, .slice A l.length c], .int .i64 key] W fun e w' => e = .returned (.bool true) ∧ Below W.heap.size W w' := by
  subst hW
  by_cases h : n < 1 ∨ 5000 < n ∨ 300 < l.length
  · exact law_no n A c l key W hT h
  · obtain ⟨m, rfl⟩ := Int.eq_ofNat_of_zero_le (show 0 ≤ n by omega)
    exact law_yes m A c l key W hT g (by omega) (by omega) (by omega)
end Go.Proofs.YtbjkncgpoengaaaDoor.F6
