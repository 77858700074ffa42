/- The law GapsNear walked: it returns true, whatever the number of slots, the calls, the two slots. -/
import Derived.Test.YtbjkncgpoengaaaDoorG12
import Derived.Test.YtbjkncgpoengaaaDoorG13
namespace Go.Proofs.YtbjkncgpoengaaaDoor.G14
open Go.RowKit Go.Proofs.YtbjkncgpoengaaaDoorW.PrintWords Go.Proofs.YtbjkncgpoengaaaDoorW.PrintLast Go.Proofs.YtbjkncgpoengaaaDoorW.PrintMore G1 G0 Q1 G2 G3 G4 G5 G6 G7 G8 G9 G10 G11 G12 G13
set_option linter.unusedVariables false
set_option linter.unusedSimpArgs false

theorem near_no (n a b : Int) (A : Option Addr) (c : Nat) (l : List Cal) (w : World) (hT : Tb w) (h : n < 1 ∨ 200 < n ∨ 100 < l.length) :
    Calls Tryd.prog 10 #[.int .i64 n, .slice A l.length c, .agg #[.int .i64 a, .int .i64 b]] w fun e w' => e = .returned (.bool true) ∧ Below w.heap.size w w' := by
  have HB := Aside0.mk (below_alloc (Below.refl w.heap.size w) (.cells #[.int .i64 a, .int .i64 b] 30))
  have HT := Aside0.mk (Kd.C_below hT HB.out)
  clear hT
  go_enter Tryd.func10, Tryd.ntmps10
  by_cases h1 : n < 1
  · clear h
    go_wp2_with fail
    refine (awake_any _ HT.out).mono ?_
    rintro e w1 ⟨rfl, hw⟩
    have hb := hw
    clear hw
    replace HB := Aside0.mk (below_step HB.out hb)
    clear hb
    go_wp2
    go_ret
    exact ⟨rfl, HB.out⟩
  · by_cases h2 : 200 < n
    · clear h
      go_wp2_with fail
      refine (awake_any _ HT.out).mono ?_
      rintro e w2 ⟨rfl, hw⟩
      have hb := hw
      clear hw
      replace HB := Aside0.mk (below_step HB.out hb)
      clear hb
      go_wp2
      go_ret
      exact ⟨rfl, HB.out⟩
    · have h3 : 100 < l.length := by omega
      clear h
      go_wp2_with fail
      refine (awake_any _ HT.out).mono ?_
      rintro e w3 ⟨rfl, hw⟩
      have hb := hw
      clear hw
      replace HB := Aside0.mk (below_step HB.out hb)
      clear hb
      go_wp2
      go_ret
      exact ⟨rfl, HB.out⟩
set_option maxRecDepth 100000 in
set_option maxHeartbeats 1000000 in
theorem near_yes (n : Nat) (a b : Int) (A : Option Addr) (c : Nat) (l : List Cal) (w : World) (hT : Tb w) (hr : Kd.C kAct w A l.length l) (h1 : 1 ≤ n) (h2 : n ≤ 200) (h3 : l.length ≤ 100) :
    Calls Tryd.prog 10 #[.int .i64 n, .slice A l.length c, .agg #[.int .i64 a, .int .i64 b]] w fun e w' => e = .returned (.bool true) ∧ Below w.heap.size w w' := by
  have HB := Aside0.mk (below_alloc (Below.refl w.heap.size w) (.cells #[.int .i64 a, .int .i64 b] 30))
  have HT := Aside0.mk (Kd.C_below hT HB.out)
  have BT := Aside0.mk (blk_new w (.cells #[.int .i64 a, .int .i64 b] 30))
  have HR := Aside0.mk (Kd.C_below hr HB.out)
  clear hr hT
  go_enter Tryd.func10, Tryd.ntmps10
  go_wp2_with fail
  refine (made_yes h1 (by omega) HR.out (by omega)).mono ?_
  rintro e w1 ⟨p, sb, ob, wb, rfl, hF, hb⟩
  have HS := Aside0.mk hF.2
  replace HB := Aside0.mk (below_step HB.out hb)
  replace HT := Aside0.mk (Kd.C_below HT.out hb)
  replace BT := Aside0.mk (blk_below BT.out hb)
  clear hF hb HR
  obtain ⟨vs, hs⟩ := HS.out
  generalize (runL n l).on = f at hs
  generalize (runL n l).xs = xs at hs
  clear HS
  have HS := Aside0.mk hs
  go_wp2_with fail
  refine (places_any hs HT.out).mono ?_
  clear hs
  rintro e w2 ⟨A2, c2, rfl, hc, hC, _, hb⟩
  replace HS := Aside0.mk (SlAt.below HS.out hb)
  replace HB := Aside0.mk (below_step HB.out hb)
  replace HT := Aside0.mk (Kd.C_below HT.out hb)
  replace BT := Aside0.mk (blk_below BT.out hb)
  have HC := Aside0.mk hC
  clear hC hb
  have LN := Aside0.mk (show (sc a b (keys (ons f xs n))).nx = nextI f n a from sc_next f xs a b n)
  have LP := Aside0.mk (sc_prev f xs a b n)
  have LM := Aside0.mk (fun x y h1 h2 => sc_many f xs x y n h1 h2)
  have hlen : (keys (ons f xs n)).length = cntF f n := HC.out.1
  have hle : cntF f n ≤ n := cntF_le f n
  generalize keys (ons f xs n) = ks at *
  obtain ⟨m, em⟩ : ∃ m, cntF f n = m := ⟨_, rfl⟩
  rw [em] at HC hlen hle hc ⊢
  clear em
  subst hlen
  have hks : ks.length ≤ n := hle
  clear hle
  go_wp2
  go_loopg [9, 10, 11, 12] ks.length (fun kq v9 v10 v11 v12 w' => ∃ i : Nat, v9 = .int .i64 (sc a b (ks.take i)).nx ∧ v10 = .int .i64 (sc a b (ks.take i)).pv ∧ v11 = .int .i64 (sc a b (ks.take i)).mn ∧ v12 = .int .i64 i ∧ i ≤ ks.length ∧ Aside0 (ks.length - i ≤ kq) ∧ Aside0 (SlAt w' p sb ob wb n f xs vs) ∧ Aside0 (Below w.heap.size w w') ∧ Aside0 (Tb w') ∧ Aside0 (w'.heap[w.heap.size]? = some (.cells #[.int .i64 a, .int .i64 b] 30 (0, 0))) ∧ Aside0 (Kd.C (Kd.int .i64) w' A2 ks.length ks))
  case atStart => exact ⟨0, rfl, rfl, rfl, rfl, by omega, ⟨by omega⟩, HS, HB, HT, BT, HC⟩
  case round =>
    clear HS HB HT BT HC
    obtain ⟨i, rfl, rfl, rfl, rfl, hi, HQ, HS, HB, HT, BT, HC⟩ := hrel
    have t0 : (_ : Option Value) = some (.int .i64 a) := (blk_cell BT.out 0).trans rfl
    have t1 : (_ : Option Value) = some (.int .i64 b) := (blk_cell BT.out 1).trans rfl
    by_cases hlt : i < ks.length
    · obtain ⟨ad, e, hx⟩ := Kd.at_int HC.out (i : Int) (by omega) (by omega)
      cases e
      rw [Int.toNat_natCast] at hx
      have hmn : (sc a b (ks.take i)).mn ≤ i := by
        have := sc_mn a b (ks.take i) ⟨-1, -1, 0⟩
        rw [List.length_take] at this
        have h0 : (sc a b (ks.take i)).mn ≤ 0 + min i ks.length := this
        omega
      have SN : Aside0 (sc a b (ks.take (i + 1)) = scStep a b (sc a b (ks.take i)) (rd ks (i : Int))) := ⟨sc_snoc a b ks i hlt⟩
      generalize sc a b (ks.take i) = st at *
      generalize rd ks (i : Int) = v at *
      obtain ⟨nx, pv, mn⟩ := st
      obtain ⟨gk, rfl⟩ : ∃ m, gk = m + 1 := ⟨gk - 1, by have := HQ.out; omega⟩
      have hm : mn ≤ i := hmn
      clear hmn
      have wm : IntKind.i64.wrap ((mn : Int) + 1) = ((mn + 1 : Nat) : Int) := IntWalk.i64_in _ (by omega)
      cases g1 : decide (a ≤ v)
      · have P1 : Aside0 (¬ a ≤ v) := ⟨of_decide_eq_false g1⟩
        cases g2 : decide (nx < 0)
        · have P2 : Aside0 (¬ nx < 0) := ⟨of_decide_eq_false g2⟩
          cases g3 : decide (v ≤ a)
          · have P3 : Aside0 (¬ v ≤ a) := ⟨of_decide_eq_false g3⟩
            cases g4 : decide (v < b)
            · have P4 : Aside0 (¬ v < b) := ⟨of_decide_eq_false g4⟩
              go_wp2
              go_quiet (fail)
              have hb : Below wr.heap.size wr (wr.drewN nq) := pw_below_drewN (Below.refl _ _) nq
              replace HS := Aside0.mk (SlAt.below HS.out hb)
              replace HB := Aside0.mk (below_step HB.out hb)
              replace HT := Aside0.mk (Kd.C_below HT.out hb)
              replace BT := Aside0.mk (blk_below BT.out hb)
              replace HC := Aside0.mk (Kd.C_below HC.out hb)
              clear hb
              replace hx : (wr.drewN nq).cell? (ad.add i) = some (.int .i64 v) := hx
              generalize wr.drewN nq = x1 at *
              replace t0 : (_ : Option Value) = some (.int .i64 a) := (blk_cell BT.out 0).trans rfl
              replace t1 : (_ : Option Value) = some (.int .i64 b) := (blk_cell BT.out 1).trans rfl
              go_wp2
              go_quiet (fail)
              have hb : Below x1.heap.size x1 (x1.drewN nq) := pw_below_drewN (Below.refl _ _) nq
              replace HS := Aside0.mk (SlAt.below HS.out hb)
              replace HB := Aside0.mk (below_step HB.out hb)
              replace HT := Aside0.mk (Kd.C_below HT.out hb)
              replace BT := Aside0.mk (blk_below BT.out hb)
              replace HC := Aside0.mk (Kd.C_below HC.out hb)
              clear hb
              replace hx : (x1.drewN nq).cell? (ad.add i) = some (.int .i64 v) := hx
              generalize x1.drewN nq = x2 at *
              replace t0 : (_ : Option Value) = some (.int .i64 a) := (blk_cell BT.out 0).trans rfl
              replace t1 : (_ : Option Value) = some (.int .i64 b) := (blk_cell BT.out 1).trans rfl
              go_wp2
              go_quiet (fail)
              have hb : Below x2.heap.size x2 (x2.drewN nq) := pw_below_drewN (Below.refl _ _) nq
              replace HS := Aside0.mk (SlAt.below HS.out hb)
              replace HB := Aside0.mk (below_step HB.out hb)
              replace HT := Aside0.mk (Kd.C_below HT.out hb)
              replace BT := Aside0.mk (blk_below BT.out hb)
              replace HC := Aside0.mk (Kd.C_below HC.out hb)
              clear hb
              replace hx : (x2.drewN nq).cell? (ad.add i) = some (.int .i64 v) := hx
              generalize x2.drewN nq = x3 at *
              replace t0 : (_ : Option Value) = some (.int .i64 a) := (blk_cell BT.out 0).trans rfl
              replace t1 : (_ : Option Value) = some (.int .i64 b) := (blk_cell BT.out 1).trans rfl
              go_wp2
              go_roundg gk
              case measure => omega
              case rel =>
                have := P1.out
                have := P2.out
                have := P3.out
                have := P4.out
                refine ⟨i + 1, ?_, ?_, ?_, by go_num, by omega, ⟨by have := HQ.out; omega⟩, HS, HB, HT, BT, HC⟩
                all_goals (rw [SN.out]; simp only [scStep]; congr 1; split <;> omega)
            · have P4 : Aside0 (v < b) := ⟨of_decide_eq_true g4⟩
              go_wp2
              go_quiet (fail)
              have hb : Below wr.heap.size wr (wr.drewN nq) := pw_below_drewN (Below.refl _ _) nq
              replace HS := Aside0.mk (SlAt.below HS.out hb)
              replace HB := Aside0.mk (below_step HB.out hb)
              replace HT := Aside0.mk (Kd.C_below HT.out hb)
              replace BT := Aside0.mk (blk_below BT.out hb)
              replace HC := Aside0.mk (Kd.C_below HC.out hb)
              clear hb
              replace hx : (wr.drewN nq).cell? (ad.add i) = some (.int .i64 v) := hx
              generalize wr.drewN nq = x1 at *
              replace t0 : (_ : Option Value) = some (.int .i64 a) := (blk_cell BT.out 0).trans rfl
              replace t1 : (_ : Option Value) = some (.int .i64 b) := (blk_cell BT.out 1).trans rfl
              go_wp2
              go_quiet (fail)
              have hb : Below x1.heap.size x1 (x1.drewN nq) := pw_below_drewN (Below.refl _ _) nq
              replace HS := Aside0.mk (SlAt.below HS.out hb)
              replace HB := Aside0.mk (below_step HB.out hb)
              replace HT := Aside0.mk (Kd.C_below HT.out hb)
              replace BT := Aside0.mk (blk_below BT.out hb)
              replace HC := Aside0.mk (Kd.C_below HC.out hb)
              clear hb
              replace hx : (x1.drewN nq).cell? (ad.add i) = some (.int .i64 v) := hx
              generalize x1.drewN nq = x2 at *
              replace t0 : (_ : Option Value) = some (.int .i64 a) := (blk_cell BT.out 0).trans rfl
              replace t1 : (_ : Option Value) = some (.int .i64 b) := (blk_cell BT.out 1).trans rfl
              go_wp2
              go_quiet (fail)
              have hb : Below x2.heap.size x2 (x2.drewN nq) := pw_below_drewN (Below.refl _ _) nq
              replace HS := Aside0.mk (SlAt.below HS.out hb)
              replace HB := Aside0.mk (below_step HB.out hb)
              replace HT := Aside0.mk (Kd.C_below HT.out hb)
              replace BT := Aside0.mk (blk_below BT.out hb)
              replace HC := Aside0.mk (Kd.C_below HC.out hb)
              clear hb
              replace hx : (x2.drewN nq).cell? (ad.add i) = some (.int .i64 v) := hx
              generalize x2.drewN nq = x3 at *
              replace t0 : (_ : Option Value) = some (.int .i64 a) := (blk_cell BT.out 0).trans rfl
              replace t1 : (_ : Option Value) = some (.int .i64 b) := (blk_cell BT.out 1).trans rfl
              go_wp2
              go_roundg gk
              case measure => omega
              case rel =>
                have := P1.out
                have := P2.out
                have := P3.out
                have := P4.out
                refine ⟨i + 1, ?_, ?_, ?_, by go_num, by omega, ⟨by have := HQ.out; omega⟩, HS, HB, HT, BT, HC⟩
                all_goals (rw [SN.out]; simp only [scStep]; congr 1; split <;> omega)
          · have P3 : Aside0 (v ≤ a) := ⟨of_decide_eq_true g3⟩
            cases g4 : decide (v < b)
            · have P4 : Aside0 (¬ v < b) := ⟨of_decide_eq_false g4⟩
              go_wp2
              go_quiet (fail)
              have hb : Below wr.heap.size wr (wr.drewN nq) := pw_below_drewN (Below.refl _ _) nq
              replace HS := Aside0.mk (SlAt.below HS.out hb)
              replace HB := Aside0.mk (below_step HB.out hb)
              replace HT := Aside0.mk (Kd.C_below HT.out hb)
              replace BT := Aside0.mk (blk_below BT.out hb)
              replace HC := Aside0.mk (Kd.C_below HC.out hb)
              clear hb
              replace hx : (wr.drewN nq).cell? (ad.add i) = some (.int .i64 v) := hx
              generalize wr.drewN nq = x1 at *
              replace t0 : (_ : Option Value) = some (.int .i64 a) := (blk_cell BT.out 0).trans rfl
              replace t1 : (_ : Option Value) = some (.int .i64 b) := (blk_cell BT.out 1).trans rfl
              go_wp2
              go_quiet (fail)
              have hb : Below x1.heap.size x1 (x1.drewN nq) := pw_below_drewN (Below.refl _ _) nq
              replace HS := Aside0.mk (SlAt.below HS.out hb)
              replace HB := Aside0.mk (below_step HB.out hb)
              replace HT := Aside0.mk (Kd.C_below HT.out hb)
              replace BT := Aside0.mk (blk_below BT.out hb)
              replace HC := Aside0.mk (Kd.C_below HC.out hb)
              clear hb
              replace hx : (x1.drewN nq).cell? (ad.add i) = some (.int .i64 v) := hx
              generalize x1.drewN nq = x2 at *
              replace t0 : (_ : Option Value) = some (.int .i64 a) := (blk_cell BT.out 0).trans rfl
              replace t1 : (_ : Option Value) = some (.int .i64 b) := (blk_cell BT.out 1).trans rfl
              go_wp2
              go_quiet (fail)
              have hb : Below x2.heap.size x2 (x2.drewN nq) := pw_below_drewN (Below.refl _ _) nq
              replace HS := Aside0.mk (SlAt.below HS.out hb)
              replace HB := Aside0.mk (below_step HB.out hb)
              replace HT := Aside0.mk (Kd.C_below HT.out hb)
              replace BT := Aside0.mk (blk_below BT.out hb)
              replace HC := Aside0.mk (Kd.C_below HC.out hb)
              clear hb
              replace hx : (x2.drewN nq).cell? (ad.add i) = some (.int .i64 v) := hx
              generalize x2.drewN nq = x3 at *
              replace t0 : (_ : Option Value) = some (.int .i64 a) := (blk_cell BT.out 0).trans rfl
              replace t1 : (_ : Option Value) = some (.int .i64 b) := (blk_cell BT.out 1).trans rfl
              go_wp2
              go_roundg gk
              case measure => omega
              case rel =>
                have := P1.out
                have := P2.out
                have := P3.out
                have := P4.out
                refine ⟨i + 1, ?_, ?_, ?_, by go_num, by omega, ⟨by have := HQ.out; omega⟩, HS, HB, HT, BT, HC⟩
                all_goals (rw [SN.out]; simp only [scStep]; congr 1; split <;> omega)
            · have P4 : Aside0 (v < b) := ⟨of_decide_eq_true g4⟩
              go_wp2
              go_quiet (fail)
              have hb : Below wr.heap.size wr (wr.drewN nq) := pw_below_drewN (Below.refl _ _) nq
              replace HS := Aside0.mk (SlAt.below HS.out hb)
              replace HB := Aside0.mk (below_step HB.out hb)
              replace HT := Aside0.mk (Kd.C_below HT.out hb)
              replace BT := Aside0.mk (blk_below BT.out hb)
              replace HC := Aside0.mk (Kd.C_below HC.out hb)
              clear hb
              replace hx : (wr.drewN nq).cell? (ad.add i) = some (.int .i64 v) := hx
              generalize wr.drewN nq = x1 at *
              replace t0 : (_ : Option Value) = some (.int .i64 a) := (blk_cell BT.out 0).trans rfl
              replace t1 : (_ : Option Value) = some (.int .i64 b) := (blk_cell BT.out 1).trans rfl
              go_wp2
              go_quiet (fail)
              have hb : Below x1.heap.size x1 (x1.drewN nq) := pw_below_drewN (Below.refl _ _) nq
              replace HS := Aside0.mk (SlAt.below HS.out hb)
              replace HB := Aside0.mk (below_step HB.out hb)
              replace HT := Aside0.mk (Kd.C_below HT.out hb)
              replace BT := Aside0.mk (blk_below BT.out hb)
              replace HC := Aside0.mk (Kd.C_below HC.out hb)
              clear hb
              replace hx : (x1.drewN nq).cell? (ad.add i) = some (.int .i64 v) := hx
              generalize x1.drewN nq = x2 at *
              replace t0 : (_ : Option Value) = some (.int .i64 a) := (blk_cell BT.out 0).trans rfl
              replace t1 : (_ : Option Value) = some (.int .i64 b) := (blk_cell BT.out 1).trans rfl
              go_wp2
              go_quiet (fail)
              have hb : Below x2.heap.size x2 (x2.drewN nq) := pw_below_drewN (Below.refl _ _) nq
              replace HS := Aside0.mk (SlAt.below HS.out hb)
              replace HB := Aside0.mk (below_step HB.out hb)
              replace HT := Aside0.mk (Kd.C_below HT.out hb)
              replace BT := Aside0.mk (blk_below BT.out hb)
              replace HC := Aside0.mk (Kd.C_below HC.out hb)
              clear hb
              replace hx : (x2.drewN nq).cell? (ad.add i) = some (.int .i64 v) := hx
              generalize x2.drewN nq = x3 at *
              replace t0 : (_ : Option Value) = some (.int .i64 a) := (blk_cell BT.out 0).trans rfl
              replace t1 : (_ : Option Value) = some (.int .i64 b) := (blk_cell BT.out 1).trans rfl
              go_wp2
              go_roundg gk
              case measure => omega
              case rel =>
                have := P1.out
                have := P2.out
                have := P3.out
                have := P4.out
                refine ⟨i + 1, ?_, ?_, ?_, by go_num, by omega, ⟨by have := HQ.out; omega⟩, HS, HB, HT, BT, HC⟩
                all_goals (rw [SN.out]; simp only [scStep]; congr 1; split <;> omega)
        · have P2 : Aside0 (nx < 0) := ⟨of_decide_eq_true g2⟩
          cases g3 : decide (v ≤ a)
          · have P3 : Aside0 (¬ v ≤ a) := ⟨of_decide_eq_false g3⟩
            cases g4 : decide (v < b)
            · have P4 : Aside0 (¬ v < b) := ⟨of_decide_eq_false g4⟩
              go_wp2
              go_quiet (fail)
              have hb : Below wr.heap.size wr (wr.drewN nq) := pw_below_drewN (Below.refl _ _) nq
              replace HS := Aside0.mk (SlAt.below HS.out hb)
              replace HB := Aside0.mk (below_step HB.out hb)
              replace HT := Aside0.mk (Kd.C_below HT.out hb)
              replace BT := Aside0.mk (blk_below BT.out hb)
              replace HC := Aside0.mk (Kd.C_below HC.out hb)
              clear hb
              replace hx : (wr.drewN nq).cell? (ad.add i) = some (.int .i64 v) := hx
              generalize wr.drewN nq = x1 at *
              replace t0 : (_ : Option Value) = some (.int .i64 a) := (blk_cell BT.out 0).trans rfl
              replace t1 : (_ : Option Value) = some (.int .i64 b) := (blk_cell BT.out 1).trans rfl
              go_wp2
              go_quiet (fail)
              have hb : Below x1.heap.size x1 (x1.drewN nq) := pw_below_drewN (Below.refl _ _) nq
              replace HS := Aside0.mk (SlAt.below HS.out hb)
              replace HB := Aside0.mk (below_step HB.out hb)
              replace HT := Aside0.mk (Kd.C_below HT.out hb)
              replace BT := Aside0.mk (blk_below BT.out hb)
              replace HC := Aside0.mk (Kd.C_below HC.out hb)
              clear hb
              replace hx : (x1.drewN nq).cell? (ad.add i) = some (.int .i64 v) := hx
              generalize x1.drewN nq = x2 at *
              replace t0 : (_ : Option Value) = some (.int .i64 a) := (blk_cell BT.out 0).trans rfl
              replace t1 : (_ : Option Value) = some (.int .i64 b) := (blk_cell BT.out 1).trans rfl
              go_wp2
              go_quiet (fail)
              have hb : Below x2.heap.size x2 (x2.drewN nq) := pw_below_drewN (Below.refl _ _) nq
              replace HS := Aside0.mk (SlAt.below HS.out hb)
              replace HB := Aside0.mk (below_step HB.out hb)
              replace HT := Aside0.mk (Kd.C_below HT.out hb)
              replace BT := Aside0.mk (blk_below BT.out hb)
              replace HC := Aside0.mk (Kd.C_below HC.out hb)
              clear hb
              replace hx : (x2.drewN nq).cell? (ad.add i) = some (.int .i64 v) := hx
              generalize x2.drewN nq = x3 at *
              replace t0 : (_ : Option Value) = some (.int .i64 a) := (blk_cell BT.out 0).trans rfl
              replace t1 : (_ : Option Value) = some (.int .i64 b) := (blk_cell BT.out 1).trans rfl
              go_wp2
              go_roundg gk
              case measure => omega
              case rel =>
                have := P1.out
                have := P2.out
                have := P3.out
                have := P4.out
                refine ⟨i + 1, ?_, ?_, ?_, by go_num, by omega, ⟨by have := HQ.out; omega⟩, HS, HB, HT, BT, HC⟩
                all_goals (rw [SN.out]; simp only [scStep]; congr 1; split <;> omega)
            · have P4 : Aside0 (v < b) := ⟨of_decide_eq_true g4⟩
              go_wp2
              go_quiet (fail)
              have hb : Below wr.heap.size wr (wr.drewN nq) := pw_below_drewN (Below.refl _ _) nq
              replace HS := Aside0.mk (SlAt.below HS.out hb)
              replace HB := Aside0.mk (below_step HB.out hb)
              replace HT := Aside0.mk (Kd.C_below HT.out hb)
              replace BT := Aside0.mk (blk_below BT.out hb)
              replace HC := Aside0.mk (Kd.C_below HC.out hb)
              clear hb
              replace hx : (wr.drewN nq).cell? (ad.add i) = some (.int .i64 v) := hx
              generalize wr.drewN nq = x1 at *
              replace t0 : (_ : Option Value) = some (.int .i64 a) := (blk_cell BT.out 0).trans rfl
              replace t1 : (_ : Option Value) = some (.int .i64 b) := (blk_cell BT.out 1).trans rfl
              go_wp2
              go_quiet (fail)
              have hb : Below x1.heap.size x1 (x1.drewN nq) := pw_below_drewN (Below.refl _ _) nq
              replace HS := Aside0.mk (SlAt.below HS.out hb)
              replace HB := Aside0.mk (below_step HB.out hb)
              replace HT := Aside0.mk (Kd.C_below HT.out hb)
              replace BT := Aside0.mk (blk_below BT.out hb)
              replace HC := Aside0.mk (Kd.C_below HC.out hb)
              clear hb
              replace hx : (x1.drewN nq).cell? (ad.add i) = some (.int .i64 v) := hx
              generalize x1.drewN nq = x2 at *
              replace t0 : (_ : Option Value) = some (.int .i64 a) := (blk_cell BT.out 0).trans rfl
              replace t1 : (_ : Option Value) = some (.int .i64 b) := (blk_cell BT.out 1).trans rfl
              go_wp2
              go_quiet (fail)
              have hb : Below x2.heap.size x2 (x2.drewN nq) := pw_below_drewN (Below.refl _ _) nq
              replace HS := Aside0.mk (SlAt.below HS.out hb)
              replace HB := Aside0.mk (below_step HB.out hb)
              replace HT := Aside0.mk (Kd.C_below HT.out hb)
              replace BT := Aside0.mk (blk_below BT.out hb)
              replace HC := Aside0.mk (Kd.C_below HC.out hb)
              clear hb
              replace hx : (x2.drewN nq).cell? (ad.add i) = some (.int .i64 v) := hx
              generalize x2.drewN nq = x3 at *
              replace t0 : (_ : Option Value) = some (.int .i64 a) := (blk_cell BT.out 0).trans rfl
              replace t1 : (_ : Option Value) = some (.int .i64 b) := (blk_cell BT.out 1).trans rfl
              go_wp2
              go_roundg gk
              case measure => omega
              case rel =>
                have := P1.out
                have := P2.out
                have := P3.out
                have := P4.out
                refine ⟨i + 1, ?_, ?_, ?_, by go_num, by omega, ⟨by have := HQ.out; omega⟩, HS, HB, HT, BT, HC⟩
                all_goals (rw [SN.out]; simp only [scStep]; congr 1; split <;> omega)
          · have P3 : Aside0 (v ≤ a) := ⟨of_decide_eq_true g3⟩
            cases g4 : decide (v < b)
            · have P4 : Aside0 (¬ v < b) := ⟨of_decide_eq_false g4⟩
              go_wp2
              go_quiet (fail)
              have hb : Below wr.heap.size wr (wr.drewN nq) := pw_below_drewN (Below.refl _ _) nq
              replace HS := Aside0.mk (SlAt.below HS.out hb)
              replace HB := Aside0.mk (below_step HB.out hb)
              replace HT := Aside0.mk (Kd.C_below HT.out hb)
              replace BT := Aside0.mk (blk_below BT.out hb)
              replace HC := Aside0.mk (Kd.C_below HC.out hb)
              clear hb
              replace hx : (wr.drewN nq).cell? (ad.add i) = some (.int .i64 v) := hx
              generalize wr.drewN nq = x1 at *
              replace t0 : (_ : Option Value) = some (.int .i64 a) := (blk_cell BT.out 0).trans rfl
              replace t1 : (_ : Option Value) = some (.int .i64 b) := (blk_cell BT.out 1).trans rfl
              go_wp2
              go_quiet (fail)
              have hb : Below x1.heap.size x1 (x1.drewN nq) := pw_below_drewN (Below.refl _ _) nq
              replace HS := Aside0.mk (SlAt.below HS.out hb)
              replace HB := Aside0.mk (below_step HB.out hb)
              replace HT := Aside0.mk (Kd.C_below HT.out hb)
              replace BT := Aside0.mk (blk_below BT.out hb)
              replace HC := Aside0.mk (Kd.C_below HC.out hb)
              clear hb
              replace hx : (x1.drewN nq).cell? (ad.add i) = some (.int .i64 v) := hx
              generalize x1.drewN nq = x2 at *
              replace t0 : (_ : Option Value) = some (.int .i64 a) := (blk_cell BT.out 0).trans rfl
              replace t1 : (_ : Option Value) = some (.int .i64 b) := (blk_cell BT.out 1).trans rfl
              go_wp2
              go_quiet (fail)
              have hb : Below x2.heap.size x2 (x2.drewN nq) := pw_below_drewN (Below.refl _ _) nq
              replace HS := Aside0.mk (SlAt.below HS.out hb)
              replace HB := Aside0.mk (below_step HB.out hb)
              replace HT := Aside0.mk (Kd.C_below HT.out hb)
              replace BT := Aside0.mk (blk_below BT.out hb)
              replace HC := Aside0.mk (Kd.C_below HC.out hb)
              clear hb
              replace hx : (x2.drewN nq).cell? (ad.add i) = some (.int .i64 v) := hx
              generalize x2.drewN nq = x3 at *
              replace t0 : (_ : Option Value) = some (.int .i64 a) := (blk_cell BT.out 0).trans rfl
              replace t1 : (_ : Option Value) = some (.int .i64 b) := (blk_cell BT.out 1).trans rfl
              go_wp2
              go_roundg gk
              case measure => omega
              case rel =>
                have := P1.out
                have := P2.out
                have := P3.out
                have := P4.out
                refine ⟨i + 1, ?_, ?_, ?_, by go_num, by omega, ⟨by have := HQ.out; omega⟩, HS, HB, HT, BT, HC⟩
                all_goals (rw [SN.out]; simp only [scStep]; congr 1; split <;> omega)
            · have P4 : Aside0 (v < b) := ⟨of_decide_eq_true g4⟩
              go_wp2
              go_quiet (fail)
              have hb : Below wr.heap.size wr (wr.drewN nq) := pw_below_drewN (Below.refl _ _) nq
              replace HS := Aside0.mk (SlAt.below HS.out hb)
              replace HB := Aside0.mk (below_step HB.out hb)
              replace HT := Aside0.mk (Kd.C_below HT.out hb)
              replace BT := Aside0.mk (blk_below BT.out hb)
              replace HC := Aside0.mk (Kd.C_below HC.out hb)
              clear hb
              replace hx : (wr.drewN nq).cell? (ad.add i) = some (.int .i64 v) := hx
              generalize wr.drewN nq = x1 at *
              replace t0 : (_ : Option Value) = some (.int .i64 a) := (blk_cell BT.out 0).trans rfl
              replace t1 : (_ : Option Value) = some (.int .i64 b) := (blk_cell BT.out 1).trans rfl
              go_wp2
              go_quiet (fail)
              have hb : Below x1.heap.size x1 (x1.drewN nq) := pw_below_drewN (Below.refl _ _) nq
              replace HS := Aside0.mk (SlAt.below HS.out hb)
              replace HB := Aside0.mk (below_step HB.out hb)
              replace HT := Aside0.mk (Kd.C_below HT.out hb)
              replace BT := Aside0.mk (blk_below BT.out hb)
              replace HC := Aside0.mk (Kd.C_below HC.out hb)
              clear hb
              replace hx : (x1.drewN nq).cell? (ad.add i) = some (.int .i64 v) := hx
              generalize x1.drewN nq = x2 at *
              replace t0 : (_ : Option Value) = some (.int .i64 a) := (blk_cell BT.out 0).trans rfl
              replace t1 : (_ : Option Value) = some (.int .i64 b) := (blk_cell BT.out 1).trans rfl
              go_wp2
              go_quiet (fail)
              have hb : Below x2.heap.size x2 (x2.drewN nq) := pw_below_drewN (Below.refl _ _) nq
              replace HS := Aside0.mk (SlAt.below HS.out hb)
              replace HB := Aside0.mk (below_step HB.out hb)
              replace HT := Aside0.mk (Kd.C_below HT.out hb)
              replace BT := Aside0.mk (blk_below BT.out hb)
              replace HC := Aside0.mk (Kd.C_below HC.out hb)
              clear hb
              replace hx : (x2.drewN nq).cell? (ad.add i) = some (.int .i64 v) := hx
              generalize x2.drewN nq = x3 at *
              replace t0 : (_ : Option Value) = some (.int .i64 a) := (blk_cell BT.out 0).trans rfl
              replace t1 : (_ : Option Value) = some (.int .i64 b) := (blk_cell BT.out 1).trans rfl
              go_wp2
              go_roundg gk
              case measure => omega
              case rel =>
                have := P1.out
                have := P2.out
                have := P3.out
                have := P4.out
                refine ⟨i + 1, ?_, ?_, ?_, by go_num, by omega, ⟨by have := HQ.out; omega⟩, HS, HB, HT, BT, HC⟩
                all_goals (rw [SN.out]; simp only [scStep]; congr 1; split <;> omega)
      · have P1 : Aside0 (a ≤ v) := ⟨of_decide_eq_true g1⟩
        have q1 := P1.out
        cases g2 : decide (nx < 0)
        · have P2 : Aside0 (¬ nx < 0) := ⟨of_decide_eq_false g2⟩
          cases g3 : decide (v ≤ a)
          · have P3 : Aside0 (¬ v ≤ a) := ⟨of_decide_eq_false g3⟩
            cases g4 : decide (v < b)
            · have P4 : Aside0 (¬ v < b) := ⟨of_decide_eq_false g4⟩
              go_wp2
              go_quiet (fail)
              have hb : Below wr.heap.size wr (wr.drewN nq) := pw_below_drewN (Below.refl _ _) nq
              replace HS := Aside0.mk (SlAt.below HS.out hb)
              replace HB := Aside0.mk (below_step HB.out hb)
              replace HT := Aside0.mk (Kd.C_below HT.out hb)
              replace BT := Aside0.mk (blk_below BT.out hb)
              replace HC := Aside0.mk (Kd.C_below HC.out hb)
              clear hb
              replace hx : (wr.drewN nq).cell? (ad.add i) = some (.int .i64 v) := hx
              generalize wr.drewN nq = x1 at *
              replace t0 : (_ : Option Value) = some (.int .i64 a) := (blk_cell BT.out 0).trans rfl
              replace t1 : (_ : Option Value) = some (.int .i64 b) := (blk_cell BT.out 1).trans rfl
              go_wp2
              go_quiet (fail)
              have hb : Below x1.heap.size x1 (x1.drewN nq) := pw_below_drewN (Below.refl _ _) nq
              replace HS := Aside0.mk (SlAt.below HS.out hb)
              replace HB := Aside0.mk (below_step HB.out hb)
              replace HT := Aside0.mk (Kd.C_below HT.out hb)
              replace BT := Aside0.mk (blk_below BT.out hb)
              replace HC := Aside0.mk (Kd.C_below HC.out hb)
              clear hb
              replace hx : (x1.drewN nq).cell? (ad.add i) = some (.int .i64 v) := hx
              generalize x1.drewN nq = x2 at *
              replace t0 : (_ : Option Value) = some (.int .i64 a) := (blk_cell BT.out 0).trans rfl
              replace t1 : (_ : Option Value) = some (.int .i64 b) := (blk_cell BT.out 1).trans rfl
              go_wp2
              go_quiet (fail)
              have hb : Below x2.heap.size x2 (x2.drewN nq) := pw_below_drewN (Below.refl _ _) nq
              replace HS := Aside0.mk (SlAt.below HS.out hb)
              replace HB := Aside0.mk (below_step HB.out hb)
              replace HT := Aside0.mk (Kd.C_below HT.out hb)
              replace BT := Aside0.mk (blk_below BT.out hb)
              replace HC := Aside0.mk (Kd.C_below HC.out hb)
              clear hb
              replace hx : (x2.drewN nq).cell? (ad.add i) = some (.int .i64 v) := hx
              generalize x2.drewN nq = x3 at *
              replace t0 : (_ : Option Value) = some (.int .i64 a) := (blk_cell BT.out 0).trans rfl
              replace t1 : (_ : Option Value) = some (.int .i64 b) := (blk_cell BT.out 1).trans rfl
              go_wp2
              go_roundg gk
              case measure => omega
              case rel =>
                have := P1.out
                have := P2.out
                have := P3.out
                have := P4.out
                refine ⟨i + 1, ?_, ?_, ?_, by go_num, by omega, ⟨by have := HQ.out; omega⟩, HS, HB, HT, BT, HC⟩
                all_goals (rw [SN.out]; simp only [scStep]; congr 1; split <;> omega)
            · have P4 : Aside0 (v < b) := ⟨of_decide_eq_true g4⟩
              go_wp2
              go_quiet (fail)
              have hb : Below wr.heap.size wr (wr.drewN nq) := pw_below_drewN (Below.refl _ _) nq
              replace HS := Aside0.mk (SlAt.below HS.out hb)
              replace HB := Aside0.mk (below_step HB.out hb)
              replace HT := Aside0.mk (Kd.C_below HT.out hb)
              replace BT := Aside0.mk (blk_below BT.out hb)
              replace HC := Aside0.mk (Kd.C_below HC.out hb)
              clear hb
              replace hx : (wr.drewN nq).cell? (ad.add i) = some (.int .i64 v) := hx
              generalize wr.drewN nq = x1 at *
              replace t0 : (_ : Option Value) = some (.int .i64 a) := (blk_cell BT.out 0).trans rfl
              replace t1 : (_ : Option Value) = some (.int .i64 b) := (blk_cell BT.out 1).trans rfl
              go_wp2
              go_quiet (fail)
              have hb : Below x1.heap.size x1 (x1.drewN nq) := pw_below_drewN (Below.refl _ _) nq
              replace HS := Aside0.mk (SlAt.below HS.out hb)
              replace HB := Aside0.mk (below_step HB.out hb)
              replace HT := Aside0.mk (Kd.C_below HT.out hb)
              replace BT := Aside0.mk (blk_below BT.out hb)
              replace HC := Aside0.mk (Kd.C_below HC.out hb)
              clear hb
              replace hx : (x1.drewN nq).cell? (ad.add i) = some (.int .i64 v) := hx
              generalize x1.drewN nq = x2 at *
              replace t0 : (_ : Option Value) = some (.int .i64 a) := (blk_cell BT.out 0).trans rfl
              replace t1 : (_ : Option Value) = some (.int .i64 b) := (blk_cell BT.out 1).trans rfl
              go_wp2
              go_quiet (fail)
              have hb : Below x2.heap.size x2 (x2.drewN nq) := pw_below_drewN (Below.refl _ _) nq
              replace HS := Aside0.mk (SlAt.below HS.out hb)
              replace HB := Aside0.mk (below_step HB.out hb)
              replace HT := Aside0.mk (Kd.C_below HT.out hb)
              replace BT := Aside0.mk (blk_below BT.out hb)
              replace HC := Aside0.mk (Kd.C_below HC.out hb)
              clear hb
              replace hx : (x2.drewN nq).cell? (ad.add i) = some (.int .i64 v) := hx
              generalize x2.drewN nq = x3 at *
              replace t0 : (_ : Option Value) = some (.int .i64 a) := (blk_cell BT.out 0).trans rfl
              replace t1 : (_ : Option Value) = some (.int .i64 b) := (blk_cell BT.out 1).trans rfl
              go_wp2
              go_roundg gk
              case measure => omega
              case rel =>
                have := P1.out
                have := P2.out
                have := P3.out
                have := P4.out
                refine ⟨i + 1, ?_, ?_, ?_, by go_num, by omega, ⟨by have := HQ.out; omega⟩, HS, HB, HT, BT, HC⟩
                all_goals (rw [SN.out]; simp only [scStep]; congr 1; split <;> omega)
          · have P3 : Aside0 (v ≤ a) := ⟨of_decide_eq_true g3⟩
            cases g4 : decide (v < b)
            · have P4 : Aside0 (¬ v < b) := ⟨of_decide_eq_false g4⟩
              go_wp2
              go_quiet (fail)
              have hb : Below wr.heap.size wr (wr.drewN nq) := pw_below_drewN (Below.refl _ _) nq
              replace HS := Aside0.mk (SlAt.below HS.out hb)
              replace HB := Aside0.mk (below_step HB.out hb)
              replace HT := Aside0.mk (Kd.C_below HT.out hb)
              replace BT := Aside0.mk (blk_below BT.out hb)
              replace HC := Aside0.mk (Kd.C_below HC.out hb)
              clear hb
              replace hx : (wr.drewN nq).cell? (ad.add i) = some (.int .i64 v) := hx
              generalize wr.drewN nq = x1 at *
              replace t0 : (_ : Option Value) = some (.int .i64 a) := (blk_cell BT.out 0).trans rfl
              replace t1 : (_ : Option Value) = some (.int .i64 b) := (blk_cell BT.out 1).trans rfl
              go_wp2
              go_quiet (fail)
              have hb : Below x1.heap.size x1 (x1.drewN nq) := pw_below_drewN (Below.refl _ _) nq
              replace HS := Aside0.mk (SlAt.below HS.out hb)
              replace HB := Aside0.mk (below_step HB.out hb)
              replace HT := Aside0.mk (Kd.C_below HT.out hb)
              replace BT := Aside0.mk (blk_below BT.out hb)
              replace HC := Aside0.mk (Kd.C_below HC.out hb)
              clear hb
              replace hx : (x1.drewN nq).cell? (ad.add i) = some (.int .i64 v) := hx
              generalize x1.drewN nq = x2 at *
              replace t0 : (_ : Option Value) = some (.int .i64 a) := (blk_cell BT.out 0).trans rfl
              replace t1 : (_ : Option Value) = some (.int .i64 b) := (blk_cell BT.out 1).trans rfl
              go_wp2
              go_quiet (fail)
              have hb : Below x2.heap.size x2 (x2.drewN nq) := pw_below_drewN (Below.refl _ _) nq
              replace HS := Aside0.mk (SlAt.below HS.out hb)
              replace HB := Aside0.mk (below_step HB.out hb)
              replace HT := Aside0.mk (Kd.C_below HT.out hb)
              replace BT := Aside0.mk (blk_below BT.out hb)
              replace HC := Aside0.mk (Kd.C_below HC.out hb)
              clear hb
              replace hx : (x2.drewN nq).cell? (ad.add i) = some (.int .i64 v) := hx
              generalize x2.drewN nq = x3 at *
              replace t0 : (_ : Option Value) = some (.int .i64 a) := (blk_cell BT.out 0).trans rfl
              replace t1 : (_ : Option Value) = some (.int .i64 b) := (blk_cell BT.out 1).trans rfl
              go_wp2
              go_roundg gk
              case measure => omega
              case rel =>
                have := P1.out
                have := P2.out
                have := P3.out
                have := P4.out
                refine ⟨i + 1, ?_, ?_, ?_, by go_num, by omega, ⟨by have := HQ.out; omega⟩, HS, HB, HT, BT, HC⟩
                all_goals (rw [SN.out]; simp only [scStep]; congr 1; split <;> omega)
            · have P4 : Aside0 (v < b) := ⟨of_decide_eq_true g4⟩
              go_wp2
              go_quiet (fail)
              have hb : Below wr.heap.size wr (wr.drewN nq) := pw_below_drewN (Below.refl _ _) nq
              replace HS := Aside0.mk (SlAt.below HS.out hb)
              replace HB := Aside0.mk (below_step HB.out hb)
              replace HT := Aside0.mk (Kd.C_below HT.out hb)
              replace BT := Aside0.mk (blk_below BT.out hb)
              replace HC := Aside0.mk (Kd.C_below HC.out hb)
              clear hb
              replace hx : (wr.drewN nq).cell? (ad.add i) = some (.int .i64 v) := hx
              generalize wr.drewN nq = x1 at *
              replace t0 : (_ : Option Value) = some (.int .i64 a) := (blk_cell BT.out 0).trans rfl
              replace t1 : (_ : Option Value) = some (.int .i64 b) := (blk_cell BT.out 1).trans rfl
              go_wp2
              go_quiet (fail)
              have hb : Below x1.heap.size x1 (x1.drewN nq) := pw_below_drewN (Below.refl _ _) nq
              replace HS := Aside0.mk (SlAt.below HS.out hb)
              replace HB := Aside0.mk (below_step HB.out hb)
              replace HT := Aside0.mk (Kd.C_below HT.out hb)
              replace BT := Aside0.mk (blk_below BT.out hb)
              replace HC := Aside0.mk (Kd.C_below HC.out hb)
              clear hb
              replace hx : (x1.drewN nq).cell? (ad.add i) = some (.int .i64 v) := hx
              generalize x1.drewN nq = x2 at *
              replace t0 : (_ : Option Value) = some (.int .i64 a) := (blk_cell BT.out 0).trans rfl
              replace t1 : (_ : Option Value) = some (.int .i64 b) := (blk_cell BT.out 1).trans rfl
              go_wp2
              go_quiet (fail)
              have hb : Below x2.heap.size x2 (x2.drewN nq) := pw_below_drewN (Below.refl _ _) nq
              replace HS := Aside0.mk (SlAt.below HS.out hb)
              replace HB := Aside0.mk (below_step HB.out hb)
              replace HT := Aside0.mk (Kd.C_below HT.out hb)
              replace BT := Aside0.mk (blk_below BT.out hb)
              replace HC := Aside0.mk (Kd.C_below HC.out hb)
              clear hb
              replace hx : (x2.drewN nq).cell? (ad.add i) = some (.int .i64 v) := hx
              generalize x2.drewN nq = x3 at *
              replace t0 : (_ : Option Value) = some (.int .i64 a) := (blk_cell BT.out 0).trans rfl
              replace t1 : (_ : Option Value) = some (.int .i64 b) := (blk_cell BT.out 1).trans rfl
              go_wp2
              go_roundg gk
              case measure => omega
              case rel =>
                have := P1.out
                have := P2.out
                have := P3.out
                have := P4.out
                refine ⟨i + 1, ?_, ?_, ?_, by go_num, by omega, ⟨by have := HQ.out; omega⟩, HS, HB, HT, BT, HC⟩
                all_goals (rw [SN.out]; simp only [scStep]; congr 1; split <;> omega)
        · have P2 : Aside0 (nx < 0) := ⟨of_decide_eq_true g2⟩
          cases g3 : decide (v ≤ a)
          · have P3 : Aside0 (¬ v ≤ a) := ⟨of_decide_eq_false g3⟩
            cases g4 : decide (v < b)
            · have P4 : Aside0 (¬ v < b) := ⟨of_decide_eq_false g4⟩
              go_wp2
              go_quiet (fail)
              have hb : Below wr.heap.size wr (wr.drewN nq) := pw_below_drewN (Below.refl _ _) nq
              replace HS := Aside0.mk (SlAt.below HS.out hb)
              replace HB := Aside0.mk (below_step HB.out hb)
              replace HT := Aside0.mk (Kd.C_below HT.out hb)
              replace BT := Aside0.mk (blk_below BT.out hb)
              replace HC := Aside0.mk (Kd.C_below HC.out hb)
              clear hb
              replace hx : (wr.drewN nq).cell? (ad.add i) = some (.int .i64 v) := hx
              generalize wr.drewN nq = x1 at *
              replace t0 : (_ : Option Value) = some (.int .i64 a) := (blk_cell BT.out 0).trans rfl
              replace t1 : (_ : Option Value) = some (.int .i64 b) := (blk_cell BT.out 1).trans rfl
              go_wp2
              go_quiet (fail)
              have hb : Below x1.heap.size x1 (x1.drewN nq) := pw_below_drewN (Below.refl _ _) nq
              replace HS := Aside0.mk (SlAt.below HS.out hb)
              replace HB := Aside0.mk (below_step HB.out hb)
              replace HT := Aside0.mk (Kd.C_below HT.out hb)
              replace BT := Aside0.mk (blk_below BT.out hb)
              replace HC := Aside0.mk (Kd.C_below HC.out hb)
              clear hb
              replace hx : (x1.drewN nq).cell? (ad.add i) = some (.int .i64 v) := hx
              generalize x1.drewN nq = x2 at *
              replace t0 : (_ : Option Value) = some (.int .i64 a) := (blk_cell BT.out 0).trans rfl
              replace t1 : (_ : Option Value) = some (.int .i64 b) := (blk_cell BT.out 1).trans rfl
              go_wp2
              go_quiet (fail)
              have hb : Below x2.heap.size x2 (x2.drewN nq) := pw_below_drewN (Below.refl _ _) nq
              replace HS := Aside0.mk (SlAt.below HS.out hb)
              replace HB := Aside0.mk (below_step HB.out hb)
              replace HT := Aside0.mk (Kd.C_below HT.out hb)
              replace BT := Aside0.mk (blk_below BT.out hb)
              replace HC := Aside0.mk (Kd.C_below HC.out hb)
              clear hb
              replace hx : (x2.drewN nq).cell? (ad.add i) = some (.int .i64 v) := hx
              generalize x2.drewN nq = x3 at *
              replace t0 : (_ : Option Value) = some (.int .i64 a) := (blk_cell BT.out 0).trans rfl
              replace t1 : (_ : Option Value) = some (.int .i64 b) := (blk_cell BT.out 1).trans rfl
              go_wp2
              go_roundg gk
              case measure => omega
              case rel =>
                have := P1.out
                have := P2.out
                have := P3.out
                have := P4.out
                refine ⟨i + 1, ?_, ?_, ?_, by go_num, by omega, ⟨by have := HQ.out; omega⟩, HS, HB, HT, BT, HC⟩
                all_goals (rw [SN.out]; simp only [scStep]; congr 1; split <;> omega)
            · have P4 : Aside0 (v < b) := ⟨of_decide_eq_true g4⟩
              go_wp2
              go_quiet (fail)
              have hb : Below wr.heap.size wr (wr.drewN nq) := pw_below_drewN (Below.refl _ _) nq
              replace HS := Aside0.mk (SlAt.below HS.out hb)
              replace HB := Aside0.mk (below_step HB.out hb)
              replace HT := Aside0.mk (Kd.C_below HT.out hb)
              replace BT := Aside0.mk (blk_below BT.out hb)
              replace HC := Aside0.mk (Kd.C_below HC.out hb)
              clear hb
              replace hx : (wr.drewN nq).cell? (ad.add i) = some (.int .i64 v) := hx
              generalize wr.drewN nq = x1 at *
              replace t0 : (_ : Option Value) = some (.int .i64 a) := (blk_cell BT.out 0).trans rfl
              replace t1 : (_ : Option Value) = some (.int .i64 b) := (blk_cell BT.out 1).trans rfl
              go_wp2
              go_quiet (fail)
              have hb : Below x1.heap.size x1 (x1.drewN nq) := pw_below_drewN (Below.refl _ _) nq
              replace HS := Aside0.mk (SlAt.below HS.out hb)
              replace HB := Aside0.mk (below_step HB.out hb)
              replace HT := Aside0.mk (Kd.C_below HT.out hb)
              replace BT := Aside0.mk (blk_below BT.out hb)
              replace HC := Aside0.mk (Kd.C_below HC.out hb)
              clear hb
              replace hx : (x1.drewN nq).cell? (ad.add i) = some (.int .i64 v) := hx
              generalize x1.drewN nq = x2 at *
              replace t0 : (_ : Option Value) = some (.int .i64 a) := (blk_cell BT.out 0).trans rfl
              replace t1 : (_ : Option Value) = some (.int .i64 b) := (blk_cell BT.out 1).trans rfl
              go_wp2
              go_quiet (fail)
              have hb : Below x2.heap.size x2 (x2.drewN nq) := pw_below_drewN (Below.refl _ _) nq
              replace HS := Aside0.mk (SlAt.below HS.out hb)
              replace HB := Aside0.mk (below_step HB.out hb)
              replace HT := Aside0.mk (Kd.C_below HT.out hb)
              replace BT := Aside0.mk (blk_below BT.out hb)
              replace HC := Aside0.mk (Kd.C_below HC.out hb)
              clear hb
              replace hx : (x2.drewN nq).cell? (ad.add i) = some (.int .i64 v) := hx
              generalize x2.drewN nq = x3 at *
              replace t0 : (_ : Option Value) = some (.int .i64 a) := (blk_cell BT.out 0).trans rfl
              replace t1 : (_ : Option Value) = some (.int .i64 b) := (blk_cell BT.out 1).trans rfl
              go_wp2
              go_roundg gk
              case measure => omega
              case rel =>
                have := P1.out
                have := P2.out
                have := P3.out
                have := P4.out
                refine ⟨i + 1, ?_, ?_, ?_, by go_num, by omega, ⟨by have := HQ.out; omega⟩, HS, HB, HT, BT, HC⟩
                all_goals (rw [SN.out]; simp only [scStep]; congr 1; split <;> omega)
          · have P3 : Aside0 (v ≤ a) := ⟨of_decide_eq_true g3⟩
            cases g4 : decide (v < b)
            · have P4 : Aside0 (¬ v < b) := ⟨of_decide_eq_false g4⟩
              go_wp2
              go_quiet (fail)
              have hb : Below wr.heap.size wr (wr.drewN nq) := pw_below_drewN (Below.refl _ _) nq
              replace HS := Aside0.mk (SlAt.below HS.out hb)
              replace HB := Aside0.mk (below_step HB.out hb)
              replace HT := Aside0.mk (Kd.C_below HT.out hb)
              replace BT := Aside0.mk (blk_below BT.out hb)
              replace HC := Aside0.mk (Kd.C_below HC.out hb)
              clear hb
              replace hx : (wr.drewN nq).cell? (ad.add i) = some (.int .i64 v) := hx
              generalize wr.drewN nq = x1 at *
              replace t0 : (_ : Option Value) = some (.int .i64 a) := (blk_cell BT.out 0).trans rfl
              replace t1 : (_ : Option Value) = some (.int .i64 b) := (blk_cell BT.out 1).trans rfl
              go_wp2
              go_quiet (fail)
              have hb : Below x1.heap.size x1 (x1.drewN nq) := pw_below_drewN (Below.refl _ _) nq
              replace HS := Aside0.mk (SlAt.below HS.out hb)
              replace HB := Aside0.mk (below_step HB.out hb)
              replace HT := Aside0.mk (Kd.C_below HT.out hb)
              replace BT := Aside0.mk (blk_below BT.out hb)
              replace HC := Aside0.mk (Kd.C_below HC.out hb)
              clear hb
              replace hx : (x1.drewN nq).cell? (ad.add i) = some (.int .i64 v) := hx
              generalize x1.drewN nq = x2 at *
              replace t0 : (_ : Option Value) = some (.int .i64 a) := (blk_cell BT.out 0).trans rfl
              replace t1 : (_ : Option Value) = some (.int .i64 b) := (blk_cell BT.out 1).trans rfl
              go_wp2
              go_quiet (fail)
              have hb : Below x2.heap.size x2 (x2.drewN nq) := pw_below_drewN (Below.refl _ _) nq
              replace HS := Aside0.mk (SlAt.below HS.out hb)
              replace HB := Aside0.mk (below_step HB.out hb)
              replace HT := Aside0.mk (Kd.C_below HT.out hb)
              replace BT := Aside0.mk (blk_below BT.out hb)
              replace HC := Aside0.mk (Kd.C_below HC.out hb)
              clear hb
              replace hx : (x2.drewN nq).cell? (ad.add i) = some (.int .i64 v) := hx
              generalize x2.drewN nq = x3 at *
              replace t0 : (_ : Option Value) = some (.int .i64 a) := (blk_cell BT.out 0).trans rfl
              replace t1 : (_ : Option Value) = some (.int .i64 b) := (blk_cell BT.out 1).trans rfl
              go_wp2
              go_roundg gk
              case measure => omega
              case rel =>
                have := P1.out
                have := P2.out
                have := P3.out
                have := P4.out
                refine ⟨i + 1, ?_, ?_, ?_, by go_num, by omega, ⟨by have := HQ.out; omega⟩, HS, HB, HT, BT, HC⟩
                all_goals (rw [SN.out]; simp only [scStep]; congr 1; split <;> omega)
            · have P4 : Aside0 (v < b) := ⟨of_decide_eq_true g4⟩
              go_wp2
              go_quiet (fail)
              have hb : Below wr.heap.size wr (wr.drewN nq) := pw_below_drewN (Below.refl _ _) nq
              replace HS := Aside0.mk (SlAt.below HS.out hb)
              replace HB := Aside0.mk (below_step HB.out hb)
              replace HT := Aside0.mk (Kd.C_below HT.out hb)
              replace BT := Aside0.mk (blk_below BT.out hb)
              replace HC := Aside0.mk (Kd.C_below HC.out hb)
              clear hb
              replace hx : (wr.drewN nq).cell? (ad.add i) = some (.int .i64 v) := hx
              generalize wr.drewN nq = x1 at *
              replace t0 : (_ : Option Value) = some (.int .i64 a) := (blk_cell BT.out 0).trans rfl
              replace t1 : (_ : Option Value) = some (.int .i64 b) := (blk_cell BT.out 1).trans rfl
              go_wp2
              go_quiet (fail)
              have hb : Below x1.heap.size x1 (x1.drewN nq) := pw_below_drewN (Below.refl _ _) nq
              replace HS := Aside0.mk (SlAt.below HS.out hb)
              replace HB := Aside0.mk (below_step HB.out hb)
              replace HT := Aside0.mk (Kd.C_below HT.out hb)
              replace BT := Aside0.mk (blk_below BT.out hb)
              replace HC := Aside0.mk (Kd.C_below HC.out hb)
              clear hb
              replace hx : (x1.drewN nq).cell? (ad.add i) = some (.int .i64 v) := hx
              generalize x1.drewN nq = x2 at *
              replace t0 : (_ : Option Value) = some (.int .i64 a) := (blk_cell BT.out 0).trans rfl
              replace t1 : (_ : Option Value) = some (.int .i64 b) := (blk_cell BT.out 1).trans rfl
              go_wp2
              go_quiet (fail)
              have hb : Below x2.heap.size x2 (x2.drewN nq) := pw_below_drewN (Below.refl _ _) nq
              replace HS := Aside0.mk (SlAt.below HS.out hb)
              replace HB := Aside0.mk (below_step HB.out hb)
              replace HT := Aside0.mk (Kd.C_below HT.out hb)
              replace BT := Aside0.mk (blk_below BT.out hb)
              replace HC := Aside0.mk (Kd.C_below HC.out hb)
              clear hb
              replace hx : (x2.drewN nq).cell? (ad.add i) = some (.int .i64 v) := hx
              generalize x2.drewN nq = x3 at *
              replace t0 : (_ : Option Value) = some (.int .i64 a) := (blk_cell BT.out 0).trans rfl
              replace t1 : (_ : Option Value) = some (.int .i64 b) := (blk_cell BT.out 1).trans rfl
              go_wp2
              go_roundg gk
              case measure => omega
              case rel =>
                have := P1.out
                have := P2.out
                have := P3.out
                have := P4.out
                refine ⟨i + 1, ?_, ?_, ?_, by go_num, by omega, ⟨by have := HQ.out; omega⟩, HS, HB, HT, BT, HC⟩
                all_goals (rw [SN.out]; simp only [scStep]; congr 1; split <;> omega)
    · have e : i = ks.length := by omega
      subst e
      rw [List.take_length]
      rw [LN.out, LP.out]
      clear hlt hi HQ
      by_cases hin : 0 ≤ a ∧ a ≤ b ∧ b ≤ n
      · obtain ⟨y0, y1, y2⟩ := hin
        obtain ⟨x, rfl⟩ := Int.eq_ofNat_of_zero_le y0
        obtain ⟨y, rfl⟩ := Int.eq_ofNat_of_zero_le (show 0 ≤ b by omega)
        rw [LM.out x y (by omega) (by omega)]
        clear LN LP LM
        go_wp2_with fail
        refine (scount_in HS.out (a := x) (b := y) (by omega) (by omega)).mono ?_
        rintro e w3 ⟨rfl, hw⟩
        have hb := hw.below
        clear hw t0 t1
        replace HS := Aside0.mk (SlAt.below HS.out hb)
        replace HB := Aside0.mk (below_step HB.out hb)
        replace HT := Aside0.mk (Kd.C_below HT.out hb)
        replace BT := Aside0.mk (blk_below BT.out hb)
        clear hb
        have t0 : (_ : Option Value) = some (.int .i64 x) := (blk_cell BT.out 0).trans rfl
        have t1 : (_ : Option Value) = some (.int .i64 y) := (blk_cell BT.out 1).trans rfl
        go_wp2_with fail
        refine (snext_any HS.out HT.out _).mono ?_
        rintro e w4 ⟨rfl, hw⟩
        have hb := hw.below
        clear hw t0 t1
        replace HS := Aside0.mk (SlAt.below HS.out hb)
        replace HB := Aside0.mk (below_step HB.out hb)
        replace HT := Aside0.mk (Kd.C_below HT.out hb)
        replace BT := Aside0.mk (blk_below BT.out hb)
        clear hb
        have t0 : (_ : Option Value) = some (.int .i64 x) := (blk_cell BT.out 0).trans rfl
        have t1 : (_ : Option Value) = some (.int .i64 y) := (blk_cell BT.out 1).trans rfl
        go_wp2_with fail
        refine (sprev_any HS.out _).mono ?_
        rintro e w5 ⟨rfl, hw⟩
        have hb := hw.below
        clear hw t0 t1
        replace HS := Aside0.mk (SlAt.below HS.out hb)
        replace HB := Aside0.mk (below_step HB.out hb)
        replace HT := Aside0.mk (Kd.C_below HT.out hb)
        replace BT := Aside0.mk (blk_below BT.out hb)
        clear hb
        have t0 : (_ : Option Value) = some (.int .i64 x) := (blk_cell BT.out 0).trans rfl
        have t1 : (_ : Option Value) = some (.int .i64 y) := (blk_cell BT.out 1).trans rfl
        have z1 : decide ((x : Int) < 0) = false := decide_eq_false (by omega)
        have z2 : decide ((y : Int) < x) = false := decide_eq_false (by omega)
        have z3 : decide ((n : Int) < y) = false := decide_eq_false (by omega)
        go_wp2_with fail
        refine (awake_any _ HT.out).mono ?_
        rintro e w1 ⟨rfl, hw⟩
        have hb := hw
        clear hw
        replace HB := Aside0.mk (below_step HB.out hb)
        clear hb
        go_wp2
        go_ret
        exact ⟨rfl, HB.out⟩
      · have hout : a < 0 ∨ b < a ∨ (n : Int) < b := by omega
        clear LM
        go_wp2_with fail
        refine (scount_out HS.out hout).mono ?_
        rintro e w3 ⟨rfl, rfl⟩
        go_wp2_with fail
        refine (snext_any HS.out HT.out _).mono ?_
        rintro e w4 ⟨rfl, hw⟩
        have hb := hw.below
        clear hw t0 t1
        replace HS := Aside0.mk (SlAt.below HS.out hb)
        replace HB := Aside0.mk (below_step HB.out hb)
        replace HT := Aside0.mk (Kd.C_below HT.out hb)
        replace BT := Aside0.mk (blk_below BT.out hb)
        clear hb
        have t0 : (_ : Option Value) = some (.int .i64 a) := (blk_cell BT.out 0).trans rfl
        have t1 : (_ : Option Value) = some (.int .i64 b) := (blk_cell BT.out 1).trans rfl
        go_wp2_with fail
        refine (sprev_any HS.out _).mono ?_
        rintro e w5 ⟨rfl, hw⟩
        have hb := hw.below
        clear hw t0 t1
        replace HS := Aside0.mk (SlAt.below HS.out hb)
        replace HB := Aside0.mk (below_step HB.out hb)
        replace HT := Aside0.mk (Kd.C_below HT.out hb)
        replace BT := Aside0.mk (blk_below BT.out hb)
        clear hb
        have t0 : (_ : Option Value) = some (.int .i64 a) := (blk_cell BT.out 0).trans rfl
        have t1 : (_ : Option Value) = some (.int .i64 b) := (blk_cell BT.out 1).trans rfl
        have OUT := Aside0.mk (And.intro hout hin)
        clear hout hin
        cases z1 : decide (a < 0)
        · cases z2 : decide (b < a)
          · have z3 : decide ((n : Int) < b) = true := by
              have h1 := of_decide_eq_false z1
              have h2 := of_decide_eq_false z2
              exact decide_eq_true (by have := OUT.out.1; omega)
            go_wp2_with fail
            refine (awake_any _ HT.out).mono ?_
            rintro e w2 ⟨rfl, hw⟩
            have hb := hw
            clear hw
            replace HB := Aside0.mk (below_step HB.out hb)
            clear hb
            go_wp2
            go_ret
            exact ⟨rfl, HB.out⟩
          · go_wp2_with fail
            refine (awake_any _ HT.out).mono ?_
            rintro e w3 ⟨rfl, hw⟩
            have hb := hw
            clear hw
            replace HB := Aside0.mk (below_step HB.out hb)
            clear hb
            go_wp2
            go_ret
            exact ⟨rfl, HB.out⟩
        · go_wp2_with fail
          refine (awake_any _ HT.out).mono ?_
          rintro e w4 ⟨rfl, hw⟩
          have hb := hw
          clear hw
          replace HB := Aside0.mk (below_step HB.out hb)
          clear hb
          go_wp2
          go_ret
          exact ⟨rfl, HB.out⟩
end Go.Proofs.YtbjkncgpoengaaaDoor.G14
