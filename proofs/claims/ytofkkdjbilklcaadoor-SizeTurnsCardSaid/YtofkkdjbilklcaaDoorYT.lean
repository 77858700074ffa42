/- The law SizeTurns walked: it returns true, whatever the array and the capacities. -/
import Derived.Test.YtofkkdjbilklcaaDoorY9
import Derived.Test.YtofkkdjbilklcaaDoorYS
import Derived.Test.YtofkkdjbilklcaaDoorSN
namespace Go.Proofs.YtofkkdjbilklcaaDoor.YT
open Go.RowKit Go.Shelf Go.Proofs.YtofkkdjbilklcaaDoorW.PrintWords Go.Proofs.YtofkkdjbilklcaaDoorW.PrintLast Go.Proofs.YtofkkdjbilklcaaDoorW.PrintMore G1 G0 Q1 G2 G3 G4 G5 G6 G7 G8 G9 G10 S1 Y1 Y3 Y2 Y4 Y5 Y6 Y7 Y9 YS
open L1 (capB)
set_option linter.unusedVariables false
set_option linter.unusedSimpArgs false
theorem vals_cnt {f : Nat → Bool} {xs : List Int} {n : Nat} {v : List Int} (h : vals (ons f xs n) = v) : cntF f n = v.length := by
  rw [← h, vals, List.length_map, ons_length]
/-- An array whose elements are known, resized. -/
theorem resize_vals {w : World} {p sb ob wb n : Nat} {g : Gap} (hI : Is w p sb ob wb n g) (hT : Tb w) {v : List Int} (hv : vals (ons g.on g.xs n) = v) {S k : Nat} (hc : capB (S : Int) = true) (hk : S = 8 * k) (hn : v.length ≤ S) :
    Calls Tryd.prog 45 #[.pointer (some ⟨p, 0, none⟩), .int .i64 S, .nilFunc] w fun e w' => ∃ p' sb' ob' wb', e = .returned (.tuple #[.pointer (some ⟨p', 0, none⟩), .int .i64 0]) ∧ Sep w w' [S1.Arr p' sb' ob' wb' S (layG S (plK v.length k 0 k) v v.length)] := by
  have hm := vals_cnt hv
  have C := resize_yes hI hT hc hk (by omega)
  rw [hv, hm] at C
  exact C
theorem pow_cap : ∀ x : Nat, x < 8 → capB ((32 * 2 ^ x : Nat) : Int) = true ∧ 2 ^ x ≤ 128 := by decide +kernel
section
variable {w : World} {A A2 : Option Addr} {c c2 : Nat} {l l2 : List Int}
set_option maxRecDepth 100000 in
theorem law_none (hT : Tb w) {n : Int} (h : 5000 < n ∨ 300 < l.length ∨ n < 1) : Calls Tryd.prog 14 #[.agg #[.int .i64 n, .slice A l.length c], .slice A2 l2.length c2] w fun e w' => e = .returned (.bool true) ∧ Below w.heap.size w w' := by
  have HT := Aside0.mk hT
  have HS := Aside0.mk ((Sep.nil w).new_blk #[.int .i64 (n : Int), .slice A l.length c] 66)
  have c0 : (_ : Option Value) = some (.int .i64 (n : Int)) := (blk_cell (HS.out.blk 0 rfl) 0).trans rfl
  have c1 : (_ : Option Value) = some (.slice A l.length c) := (blk_cell (HS.out.blk 0 rfl) 1).trans rfl
  have C := Aside0.mk (fun w => made_none (A := A) (c := c) h w)
  clear hT h
  go_enter Tryd.func14, Tryd.ntmps14
  go_wp2_with fail
  refine (C.out _).mono ?_
  clear C c0 c1
  rintro e w1 ⟨rfl, hb⟩
  replace HS := Aside0.mk (HS.out.step hb)
  clear hb
  have C := Aside0.mk (awake_any _ (Kd.C_below HT.out HS.out.below))
  go_wp2_with fail
  refine C.out.mono ?_
  clear C
  rintro e w30 ⟨rfl, hb⟩
  replace HS := Aside0.mk (HS.out.step hb)
  clear hb
  go_wp2
  (try rw [Exit.noGoto_ret])
  go_ret
  exact ⟨rfl, HS.out.below⟩
set_option maxRecDepth 100000 in
theorem law_many (hT : Tb w) (hr : Kd.C (Kd.int .i64) w A l.length l) {n : Nat} (h1 : 1 ≤ n) (h2 : n ≤ 5000) (h3 : l.length ≤ 300) (h4 : 8 < l2.length) : Calls Tryd.prog 14 #[.agg #[.int .i64 (n : Int), .slice A l.length c], .slice A2 l2.length c2] w fun e w' => e = .returned (.bool true) ∧ Below w.heap.size w w' := by
  have HT := Aside0.mk hT
  have HS := Aside0.mk ((Sep.nil w).new_blk #[.int .i64 (n : Int), .slice A l.length c] 66)
  have c0 : (_ : Option Value) = some (.int .i64 (n : Int)) := (blk_cell (HS.out.blk 0 rfl) 0).trans rfl
  have c1 : (_ : Option Value) = some (.slice A l.length c) := (blk_cell (HS.out.blk 0 rfl) 1).trans rfl
  have C := Aside0.mk (made_yes (c := c) (Kd.C_below hr HS.out.below) h1 h2 h3)
  clear hT hr h1 h2 h3
  go_enter Tryd.func14, Tryd.ntmps14
  go_wp2_with fail
  refine C.out.mono ?_
  clear C c0 c1
  rintro e w1 ⟨p, sb, ob, wb, rfl, hs1⟩
  replace HS := Aside0.mk (HS.out.append hs1)
  clear hs1
  have C := Aside0.mk (awake_any _ (Kd.C_below HT.out HS.out.below))
  go_wp2_with fail
  refine C.out.mono ?_
  clear C
  rintro e w30 ⟨rfl, hb⟩
  replace HS := Aside0.mk (HS.out.step hb)
  clear hb
  go_wp2
  (try rw [Exit.noGoto_ret])
  go_ret
  exact ⟨rfl, HS.out.below⟩
set_option maxRecDepth 100000 in
set_option maxHeartbeats 1600000 in
theorem law_good (hT : Tb w) (hr : Kd.C (Kd.int .i64) w A l.length l) {n : Nat} (h1 : 1 ≤ n) (h2 : n ≤ 5000) (h3 : l.length ≤ 300) (hr2 : Kd.C (Kd.int .i64) w A2 l2.length l2) (h4 : l2.length ≤ 8) : Calls Tryd.prog 14 #[.agg #[.int .i64 (n : Int), .slice A l.length c], .slice A2 l2.length c2] w fun e w' => e = .returned (.bool true) ∧ Below w.heap.size w w' := by
  have HT := Aside0.mk hT
  have HS := Aside0.mk ((Sep.nil w).new_blk #[.int .i64 (n : Int), .slice A l.length c] 66)
  have c0 : (_ : Option Value) = some (.int .i64 (n : Int)) := (blk_cell (HS.out.blk 0 rfl) 0).trans rfl
  have c1 : (_ : Option Value) = some (.slice A l.length c) := (blk_cell (HS.out.blk 0 rfl) 1).trans rfl
  have C := Aside0.mk (made_yes (c := c) (Kd.C_below hr HS.out.below) h1 h2 h3)
  have HR2 := Aside0.mk hr2
  have q4 : ¬ 8 < l2.length := by omega
  clear hT hr hr2 h1 h3
  go_enter Tryd.func14, Tryd.ntmps14
  go_wp2_with fail
  refine C.out.mono ?_
  clear C c0 c1
  rintro e w1 ⟨p, sb, ob, wb, rfl, hs1⟩
  replace HS := Aside0.mk (HS.out.append hs1)
  clear hs1
  obtain ⟨vs, hs⟩ := HS.out.arr 1 rfl
  have C := Aside0.mk (items_any hs (Kd.C_below HT.out HS.out.below))
  have IT := Aside0.mk (HS.out.arr 1 rfl)
  clear hs vs
  generalize hg : madeG n l l.length = g at *
  clear hg
  obtain ⟨v, hv⟩ : ∃ v, vals (ons g.on g.xs n) = v := ⟨_, rfl⟩
  have hvl := vals_cnt hv
  have hvn : v.length ≤ 5000 := by have := cntF_le g.on n; omega
  rw [hv, hvl] at C
  have HV := Aside0.mk hv
  clear hv hvl
  go_wp2_with fail
  refine C.out.mono ?_
  clear C
  rintro e w2 ⟨A1, c1, rfl, g1, g2, g3, hb⟩
  replace HS := Aside0.mk (HS.out.append (own_conv hb g3 (by rfl)))
  replace IT := Aside0.mk (IT.out.below hb)
  have G := Aside0.mk g2
  have G1 := Aside0.mk g1
  clear g1 g2 g3 hb q4 h2
  go_wp2
  go_loopg [7, 8] (l2.length + 1) (fun kq v7 v8 W => ∃ (i tp ts tq tw T : Nat) (gt : Gap), v7 = .pointer (some ⟨tp, 0, none⟩) ∧ v8 = .int .i64 (i : Int) ∧ i ≤ l2.length ∧ Aside0 (l2.length + 1 - i ≤ kq) ∧ Aside0 (Sep w W [S1.Blk w.heap.size #[.int .i64 (n : Int), .slice A l.length c] 66, S1.Arr p sb ob wb n g, S1.Own (.slice A1 v.length c1) v]) ∧ Aside0 (Is W tp ts tq tw T gt ∧ vals (ons gt.on gt.xs T) = v) ∧ Aside0 (Kd.C (Kd.int .i64) W A1 v.length v))
  case atStart => exact ⟨0, p, sb, ob, wb, n, g, rfl, rfl, by omega, ⟨by omega⟩, HS, ⟨IT.out, HV.out⟩, G⟩
  case round =>
    clear HS IT G
    obtain ⟨i, tp, ts, tq, tw, T, gt, rfl, rfl, hi, HQ, HS, IT, G⟩ := hrel
    by_cases hlt : i < l2.length
    · obtain ⟨ad, e, hx⟩ := Kd.at_int (Kd.C_below HR2.out HS.out.below) (i : Int) (by omega) (by omega)
      cases e
      rw [Int.toNat_natCast, show rd l2 (i : Int) = l2.getD i 0 from rfl] at hx
      generalize l2.getD i 0 = x at *
      by_cases hx0 : x < 0
      · have e0 : decide (x < 0) = true := decide_eq_true hx0
        go_wp2
        go_roundg (l2.length - i)
        case measure => have := HQ.out; omega
        case rel => exact ⟨i + 1, tp, ts, tq, tw, T, gt, rfl, by go_num, by omega, ⟨by omega⟩, HS, IT, G⟩
      · by_cases hx7 : 7 < x
        · have e0 : decide (x < 0) = false := decide_eq_false hx0
          have e7 : decide (7 < x) = true := decide_eq_true hx7
          go_wp2
          go_roundg (l2.length - i)
          case measure => have := HQ.out; omega
          case rel => exact ⟨i + 1, tp, ts, tq, tw, T, gt, rfl, by go_num, by omega, ⟨by omega⟩, HS, IT, G⟩
        · obtain ⟨xn, rfl⟩ := Int.eq_ofNat_of_zero_le (show 0 ≤ x by omega)
          have e0 : decide ((xn : Int) < 0) = false := decide_eq_false hx0
          have e7 : decide (7 < (xn : Int)) = false := decide_eq_false hx7
          go_wp2
          go_loopg [9, 10] (xn + 1) (fun kq v9 v10 W2 => ∃ (k : Nat), v9 = .int .i64 ((32 * 2 ^ k : Nat) : Int) ∧ v10 = .int .i64 (k : Int) ∧ k ≤ xn ∧ Aside0 (xn + 1 - k ≤ kq) ∧ wr = W2)
          case atStart => exact ⟨0, rfl, rfl, by omega, ⟨by omega⟩, rfl⟩
          case round =>
            obtain ⟨k, rfl, rfl, hk, HQ2, rfl⟩ := hrel
            have hp := (pow_cap k (by omega)).2
            by_cases hkx : k < xn
            · have e2 : (2 : Int) * ((32 * 2 ^ k : Nat) : Int) = ((32 * 2 ^ (k + 1) : Nat) : Int) := by rw [Nat.pow_succ]; omega
              have E2 := Aside0.mk e2
              clear e2
              generalize hP : 2 ^ k = P at *
              go_wp2
              go_roundg (xn - k)
              case measure => have := HQ2.out; omega
              case rel => exact ⟨k + 1, by rw [← E2.out]; congr 1, by go_num, by omega, ⟨by omega⟩, rfl⟩
            · obtain rfl : k = xn := by omega
              have hc := (pow_cap k (by omega)).1
              generalize 32 * 2 ^ k = S at *
              clear hp hkx HQ2 hk e0 e7 hx0 hx7
              obtain ⟨s, hs8, hs1, hs2, _, _⟩ := cap_nat hc
              have H8 := Aside0.mk hs8
              have HC := Aside0.mk hc
              clear hs8 hc
              by_cases hl : v.length ≤ S
              · have C := Aside0.mk (resize_vals IT.out.1 (Kd.C_below HT.out HS.out.below) IT.out.2 HC.out H8.out hl)
                go_wp2_with fail
                refine C.out.mono ?_
                clear C
                rintro e w3 ⟨q, qs, qo, qw, rfl, hsu⟩
                replace G := Aside0.mk (Kd.C_below G.out hsu.below)
                replace HS := Aside0.mk (HS.out.append hsu)
                clear hsu
                have C := Aside0.mk (resize_vals (HS.out.arr 1 rfl) (Kd.C_below HT.out HS.out.below) HV.out HC.out H8.out hl)
                go_wp2_with fail
                refine C.out.mono ?_
                clear C
                rintro e w4 ⟨r, rs, ro, rw_, rfl, hsu⟩
                replace G := Aside0.mk (Kd.C_below G.out hsu.below)
                replace HS := Aside0.mk (HS.out.append hsu)
                clear hsu IT
                have C := Aside0.mk (spread_places (l := v) (HS.out.arr 3 rfl) (Kd.C_below HT.out HS.out.below) (by omega) H8.out hl)
                go_wp2_with fail
                refine C.out.mono ?_
                clear C
                rintro e wd ⟨_, _, rfl, g1, g2, hb⟩
                replace HS := Aside0.mk (HS.out.step hb)
                replace G := Aside0.mk (Kd.C_below G.out hb)
                have G2 := Aside0.mk (And.intro g1 g2)
                clear g1 g2 hb
                have C := Aside0.mk (spread_places (l := v) (HS.out.arr 4 rfl) (Kd.C_below HT.out HS.out.below) (by omega) H8.out hl)
                go_wp2_with fail
                refine C.out.mono ?_
                clear C
                rintro e wd ⟨_, _, rfl, g1, g2, hb⟩
                replace HS := Aside0.mk (HS.out.step hb)
                replace G := Aside0.mk (Kd.C_below G.out hb)
                have C := ints_any (Kd.C_below G2.out.2 hb) G2.out.1 g2 g1 (by rw [pl_len 0 (by omega)]; omega)
                rw [decide_eq_true rfl] at C
                have C := Aside0.mk C
                clear hb g1 g2
                go_wp2_with fail
                refine C.out.mono ?_
                clear C
                rintro e wd ⟨rfl, hd⟩
                replace HS := Aside0.mk (HS.out.step hd.below)
                replace G := Aside0.mk (Kd.C_below G.out hd.below)
                clear hd
                have C := Aside0.mk (spread_items (l := v) (HS.out.arr 3 rfl) (Kd.C_below HT.out HS.out.below) (by omega) H8.out hl)
                go_wp2_with fail
                refine C.out.mono ?_
                clear C
                rintro e wd ⟨_, _, rfl, g1, g2, hb⟩
                replace HS := Aside0.mk (HS.out.step hb)
                replace G := Aside0.mk (Kd.C_below G.out hb)
                have C := ints_any g2 g1 G.out G1.out (by omega)
                rw [decide_eq_true rfl] at C
                have C := Aside0.mk C
                clear hb g1 g2
                go_wp2_with fail
                refine C.out.mono ?_
                clear C
                rintro e wd ⟨rfl, hd⟩
                replace HS := Aside0.mk (HS.out.step hd.below)
                replace G := Aside0.mk (Kd.C_below G.out hd.below)
                clear hd
                have C := Aside0.mk (spread_items (l := v) (HS.out.arr 4 rfl) (Kd.C_below HT.out HS.out.below) (by omega) H8.out hl)
                go_wp2_with fail
                refine C.out.mono ?_
                clear C
                rintro e wd ⟨_, _, rfl, g1, g2, hb⟩
                replace HS := Aside0.mk (HS.out.step hb)
                replace G := Aside0.mk (Kd.C_below G.out hb)
                have C := ints_any g2 g1 G.out G1.out (by omega)
                rw [decide_eq_true rfl] at C
                have C := Aside0.mk C
                clear hb g1 g2
                go_wp2_with fail
                refine C.out.mono ?_
                clear C
                rintro e wd ⟨rfl, hd⟩
                replace HS := Aside0.mk (HS.out.step hd.below)
                replace G := Aside0.mk (Kd.C_below G.out hd.below)
                clear hd
                clear G2
                replace HS := Aside0.mk (HS.out.new_own (xs := []) (below_alloc (Below.refl _ wd) (.cells #[] 3)) (own_lit wd wd.heap.size 3 .i64 [] (Nat.le_refl _) (by simp)))
                replace G := Aside0.mk (Kd.C_below G.out (below_alloc (Below.refl wd.heap.size wd) (.cells #[] 3)))
                have H88 := Aside0.mk (show wrap64 ((S : Int) / 8) = (s : Int) by rw [show (S : Int) / 8 = (s : Int) by have := H8.out; omega]; exact Y1.w64 (by omega) (by omega))
                have hq8 := H88.out
                have hFB := Aside0.mk (fun (h : fitsB (v.length : Int) (S : Int) = true) => fits_bounds (n := v.length) (s := s) (by rw [← H8.out]; exact HC.out) (by rw [← H8.out]; exact h))
                have hvs : v.length ≤ 8 * s := by have := H8.out; omega
                have HVS := Aside0.mk hvs
                clear hvs
                go_wp2
                go_loopg [15, 16] (s + 1) (fun kq v15 v16 W3 => ∃ (j : Nat), v16 = .int .i64 (j : Int) ∧ j ≤ s ∧ Aside0 (s + 1 - j ≤ kq) ∧ Aside0 (Sep w W3 [S1.Blk w.heap.size #[.int .i64 (n : Int), .slice A l.length c] 66, S1.Arr p sb ob wb n g, S1.Own (.slice A1 v.length c1) v, S1.Arr q qs qo qw S (layG S (plK v.length s 0 s) v v.length), S1.Arr r rs ro rw_ S (layG S (plK v.length s 0 s) v v.length), S1.Own v15 ((List.range j).map fun x => (Y1.shr v.length s x : Int))]) ∧ Aside0 (Kd.C (Kd.int .i64) W3 A1 v.length v))
                case atStart => exact ⟨0, rfl, by omega, ⟨by omega⟩, HS, G⟩
                case round =>
                  clear HS G
                  obtain ⟨j, rfl, hj, HQ3, HS, G⟩ := hrel
                  by_cases hlt3 : j < s
                  · obtain ⟨vs, hs⟩ := HS.out.arr 3 rfl
                    have C := scount_in hs (a := 8 * j) (b := 8 * j + 8) (by omega) (by have := H8.out; omega)
                    rw [show cntF (layG S (plK v.length s 0 s) v v.length).on (8 * j + 8) - cntF (layG S (plK v.length s 0 s) v v.length).on (8 * j) = Y1.shr v.length s j by rw [H8.out, show 8 * j + 8 = 8 * (j + 1) by omega, lay_cnt_at (by omega) HVS.out (by omega), lay_cnt_at (by omega) HVS.out (by omega)]; rfl, show ((8 * j + 8 : Nat) : Int) = 8 * (j : Int) + 8 by omega, show ((8 * j : Nat) : Int) = 8 * (j : Int) by omega] at C
                    have C := Aside0.mk C
                    clear hs vs
                    have SB := Aside0.mk (shr_between (n := v.length) (k := j) (show 1 ≤ s by omega))
                    have LST : Aside0 ((List.range (j + 1)).map (fun x => (Y1.shr v.length s x : Int)) = (List.range j).map (fun x => (Y1.shr v.length s x : Int)) ++ [(Y1.shr v.length s j : Int)]) := ⟨by rw [List.range_succ, List.map_append]; rfl⟩
                    have LL : Aside0 (((List.range j).map (fun x => (Y1.shr v.length s x : Int))).length ≤ 1000000) := ⟨by simp; omega⟩
                    generalize Y1.shr v.length s j = y at *
                    go_wp2_with fail
                    refine C.out.mono ?_
                    clear C
                    rintro e wd ⟨rfl, hd⟩
                    replace HS := Aside0.mk (HS.out.step hd.below)
                    replace G := Aside0.mk (Kd.C_below G.out hd.below)
                    clear hd
                    have C := fits_any (v.length : Int) (S : Int) wd (Kd.C_below HT.out HS.out.below)
                    have FB := Aside0.mk hFB.out
                    cases hb : fitsB (v.length : Int) (S : Int) with
                    | false =>
                      rw [hb] at C
                      have C := Aside0.mk C
                      clear hb FB
                      go_wp2_with fail
                      refine C.out.mono ?_
                      clear C
                      rintro e we ⟨rfl, hd⟩
                      replace HS := Aside0.mk (HS.out.step hd.below)
                      replace G := Aside0.mk (Kd.C_below G.out hd.below)
                      clear hd
                      go_wp2_with ((with_reducible refine gate_builtin (b := .append) (xs := #[.tmp 155, .tmp 157]) rfl ?_); at_builtin; refine SN.sep_append rfl (.tmp 155) (.tmp 157) rfl HS.out 5 rfl (y : Int) rfl rfl LL.out ?_; intro v1 w2 hs2; have HS2 := Aside0.mk hs2; clear hs2)
                      go_roundg (s - j)
                      case measure => have := HQ3.out; omega
                      case rel => exact ⟨j + 1, by go_num, by omega, ⟨by omega⟩, ⟨by rw [LST.out]; exact HS2.out⟩, ⟨(HS2.out.row 2 rfl).2.2⟩⟩
                    | true =>
                      rw [hb] at C
                      have C := Aside0.mk C
                      have fb := FB.out hb
                      have sb2 := SB.out
                      have y7 : ¬ 7 < (y : Int) := by
                        have : v.length / s ≤ 5 := Nat.div_le_of_le_mul (by omega)
                        omega
                      by_cases y1 : (y : Int) < 1
                      · have S32 : ¬ 32 < (S : Int) := by
                          intro h32
                          have := fb.2 (by have := H8.out; omega)
                          have : 1 ≤ v.length / s := (Nat.le_div_iff_mul_le (by omega)).2 (by omega)
                          omega
                        clear hb FB fb sb2
                        go_wp2_with fail
                        refine C.out.mono ?_
                        clear C
                        rintro e we ⟨rfl, hd⟩
                        replace HS := Aside0.mk (HS.out.step hd.below)
                        replace G := Aside0.mk (Kd.C_below G.out hd.below)
                        clear hd
                        go_wp2_with ((with_reducible refine gate_builtin (b := .append) (xs := #[.tmp 155, .tmp 157]) rfl ?_); at_builtin; refine SN.sep_append rfl (.tmp 155) (.tmp 157) rfl HS.out 5 rfl (y : Int) rfl rfl LL.out ?_; intro v1 w2 hs2; have HS2 := Aside0.mk hs2; clear hs2)
                        go_roundg (s - j)
                        case measure => have := HQ3.out; omega
                        case rel => exact ⟨j + 1, by go_num, by omega, ⟨by omega⟩, ⟨by rw [LST.out]; exact HS2.out⟩, ⟨(HS2.out.row 2 rfl).2.2⟩⟩
                      · clear hb FB fb sb2
                        go_wp2_with fail
                        refine C.out.mono ?_
                        clear C
                        rintro e we ⟨rfl, hd⟩
                        replace HS := Aside0.mk (HS.out.step hd.below)
                        replace G := Aside0.mk (Kd.C_below G.out hd.below)
                        clear hd
                        go_wp2_with ((with_reducible refine gate_builtin (b := .append) (xs := #[.tmp 155, .tmp 157]) rfl ?_); at_builtin; refine SN.sep_append rfl (.tmp 155) (.tmp 157) rfl HS.out 5 rfl (y : Int) rfl rfl LL.out ?_; intro v1 w2 hs2; have HS2 := Aside0.mk hs2; clear hs2)
                        go_roundg (s - j)
                        case measure => have := HQ3.out; omega
                        case rel => exact ⟨j + 1, by go_num, by omega, ⟨by omega⟩, ⟨by rw [LST.out]; exact HS2.out⟩, ⟨(HS2.out.row 2 rfl).2.2⟩⟩
                  · obtain rfl : j = s := by omega
                    obtain ⟨A9, c9, e9, k1, k2⟩ := G9.own_C (HS.out.own 5 rfl)
                    subst e9
                    have hll : ((List.range j).map (fun x => (Y1.shr v.length j x : Int))).length = j := by simp
                    have C := SN.even_true (c := c9) k2 (by rw [hll]; omega) (q := ((v.length / j : Nat) : Int)) (Int.natCast_nonneg _) (by have : v.length / j ≤ v.length := Nat.div_le_self _ _; omega) (fun x hx => by
                      rw [hll] at hx
                      have hs := shr_between (n := v.length) (k := x) (show 1 ≤ j by omega)
                      simp only [List.getD_eq_getElem?_getD, List.getElem?_map, List.getElem?_range hx, Option.map_some, Option.getD_some]
                      omega)
                    rw [hll] at C
                    have C := Aside0.mk C
                    clear k1 k2 hll
                    have LV := Aside0.mk (lay_vals (S := S) (l := v) (show Rise S (plK v.length j 0 j) by rw [H8.out]; exact pl_rise (by omega) HVS.out) (pl_len 0 (by omega)))
                    rw [pl_len 0 (by omega)] at LV
                    go_wp2_with fail
                    refine C.out.mono ?_
                    clear C
                    rintro e wd ⟨rfl, rfl⟩
                    go_wp2
                    go_roundg (l2.length - i)
                    case measure => have := HQ.out; omega
                    case rel => exact ⟨i + 1, q, qs, qo, qw, S, _, rfl, by go_num, by omega, ⟨by omega⟩, ⟨HS.out.take 3⟩, ⟨HS.out.arr 3 rfl, LV.out⟩, G⟩
              · have hl2 : S < v.length := by omega
                have C := Aside0.mk (resize_long IT.out.1 HC.out (by rw [vals_cnt IT.out.2]; exact hl2))
                go_wp2_with fail
                refine C.out.mono ?_
                clear C
                rintro e w3 ⟨rfl, hb⟩
                replace HS := Aside0.mk (HS.out.step hb)
                replace IT := Aside0.mk (And.intro (IT.out.1.below hb) IT.out.2)
                replace G := Aside0.mk (Kd.C_below G.out hb)
                clear hb
                go_wp2
                go_roundg (l2.length - i)
                case measure => have := HQ.out; omega
                case rel => exact ⟨i + 1, tp, ts, tq, tw, T, gt, rfl, by go_num, by omega, ⟨by omega⟩, HS, IT, G⟩
    · obtain rfl : i = l2.length := by omega
      have C := Aside0.mk (awake_any _ (Kd.C_below HT.out HS.out.below))
      go_wp2_with fail
      refine C.out.mono ?_
      clear C
      rintro e w30 ⟨rfl, hb⟩
      replace HS := Aside0.mk (HS.out.step hb)
      clear hb
      go_wp2
      (try rw [Exit.noGoto_ret])
      go_ret
      exact ⟨rfl, HS.out.below⟩
end
theorem law (n : Int) (wn : (Lit.int .i64 n).wf = true) (A : Option Addr) (c : Nat) (l : List Int) {W0 : World} (g : Kd.C (Kd.int .i64) W0 A l.length l) (e : l.length ≤ c) (wl : ∀ x ∈ l, (Lit.int .i64 x).wf = true) (A2 : Option Addr) (c2 : Nat) (l2 : List Int) (g2 : Kd.C (Kd.int .i64) W0 A2 l2.length l2) (e2 : l2.length ≤ c2) (y2 : l2.length * 8 ≤ 140737488351232) (wl2 : ∀ x ∈ l2, (Lit.int .i64 x).wf = true) (W : World) (hT : Tb W) (hW : W = W0 := by rfl) :
    Calls Tryd.prog 14 #[.agg #[.int .i64 n, .slice A l.length c], .slice A2 l2.length c2] W fun e w' => e = .returned (.bool true) ∧ Below W.heap.size W w' := by
  subst hW
  by_cases h : 5000 < n ∨ 300 < l.length ∨ n < 1
  · exact law_none hT h
  · obtain ⟨n, rfl⟩ := Int.eq_ofNat_of_zero_le (show 0 ≤ n by omega)
    by_cases h8 : l2.length ≤ 8
    · exact law_good hT g (by omega) (by omega) (by omega) g2 h8
    · exact law_many hT g (by omega) (by omega) (by omega) (by omega)
end Go.Proofs.YtofkkdjbilklcaaDoor.YT
