/- Walk of the law BisectParts: it returns true; whatever the numbers. -/
import Derived.Test.YtmjfnifdgneooaaA5
namespace Go.Proofs.Ytmjfnifdgneooaa.A6
open Go.RowKit Go.Proofs.YtmjfnifdgneooaaW.PrintWords Go.Proofs.YtmjfnifdgneooaaW.PrintLast Go.Proofs.YtmjfnifdgneooaaW.PrintMore B1 A1 B2 A2 A3 A4 A5
set_option linter.unusedVariables false
set_option linter.unusedSimpArgs false

/-- Span's answer, whatever the ends. -/
def spanA (r : List Int) (lo hi : Int) : Int × Int × Int := if lo ≤ hi then ((rankN r lo : Int), (rankN r hi : Int), 0) else (0, 0, 1)
theorem span_any (A0 : Option Addr) (c0 : Nat) (l : List Int) (lo hi : Int) (w : World) (hr : Kd.C (Kd.int .i64) w A0 l.length l) (hc : l.length ≤ c0)
    (hlen : l.length ≤ 1000000000000) (h : risingB l = true) :
    Calls Try.prog 18 #[.slice A0 l.length c0, .int .i64 lo, .int .i64 hi] w fun e w' => e = .returned (.tuple #[.int .i64 (spanA l lo hi).1, .int .i64 (spanA l lo hi).2.1, .int .i64 (spanA l lo hi).2.2]) ∧ Drawn0 w w' := by
  by_cases hh : lo ≤ hi
  · have e : spanA l lo hi = ((rankN l lo : Int), (rankN l hi : Int), 0) := if_pos hh
    rw [e]
    exact span_yes A0 c0 l lo hi w hr hc hlen h hh
  · have e : spanA l lo hi = (0, 0, 1) := if_neg hh
    rw [e]
    exact span_arg A0 c0 l lo hi w hr hc hlen h (by omega)

set_option maxHeartbeats 4000000 in
set_option maxRecDepth 100000 in
theorem parts_any (A0 : Option Addr) (c0 : Nat) (l : List Int) (x y z : Int) (w : World) (hr : Kd.C (Kd.int .i64) w A0 l.length l) (hc : l.length ≤ c0) :
    Calls Try.prog 5 #[.slice A0 l.length c0, .agg #[.int .i64 x, .int .i64 y, .int .i64 z]] w fun e w' => e = .returned (.bool true) ∧ Below w.heap.size w w' := by
  have HR := Aside0.mk (Kd.C_below hr (below_alloc (Below.refl w.heap.size w) (.cells #[.int .i64 x, .int .i64 y, .int .i64 z] 36)))
  have HB := Aside0.mk (below_alloc (Below.refl w.heap.size w) (.cells #[.int .i64 x, .int .i64 y, .int .i64 z] 36))
  have BK := Aside0.mk (blk_new w (.cells #[.int .i64 x, .int .i64 y, .int .i64 z] 36))
  clear hr
  go_enter Try.func5, Try.ntmps5
  go_wp2_with fail
  refine (risen_any _ _ l _ HR.out hc).mono ?_
  rintro e w0 ⟨r, hg, A, c, rfl, hcr, hC, hb⟩
  have HG := Aside0.mk hg
  have HR := Aside0.mk hC
  replace HB := Aside0.mk (below_step HB.out hb)
  replace BK := Aside0.mk (blk_below BK.out hb)
  have h200 : r.length ≤ 200 := hg.2.1
  clear hg hC hb
  have BK_c0 : (_ : Option Value) = some (.int .i64 x) := (blk_cell BK.out 0).trans rfl
  have BK_c1 : (_ : Option Value) = some (.int .i64 y) := (blk_cell BK.out 1).trans rfl
  have BK_c2 : (_ : Option Value) = some (.int .i64 z) := (blk_cell BK.out 2).trans rfl
  obtain ⟨g, h, e3, HS3⟩ : ∃ a b e1 : Int, Aside0 (spanA r x z = (a, b, e1)) := ⟨_, _, _, ⟨rfl⟩⟩
  by_cases hxy : x ≤ y
  · by_cases hyz : y ≤ z
    · have hxz : x ≤ z := by omega
      go_wp2_with fail
      refine (span_yes _ _ r x y _ HR.out hcr (by omega) HG.out.1 hxy).mono ?_
      rintro e w1 ⟨rfl, hw⟩
      have hb := hw.below
      clear hw
      replace HB := Aside0.mk (below_step HB.out hb)
      replace BK := Aside0.mk (blk_below BK.out hb)
      replace BK_c0 : (_ : Option Value) = some (.int .i64 x) := (blk_cell BK.out 0).trans rfl
      replace BK_c1 : (_ : Option Value) = some (.int .i64 y) := (blk_cell BK.out 1).trans rfl
      replace BK_c2 : (_ : Option Value) = some (.int .i64 z) := (blk_cell BK.out 2).trans rfl
      replace HR := Aside0.mk (Kd.C_below HR.out hb)
      clear hb
      go_wp2_with fail
      refine (span_yes _ _ r y z _ HR.out hcr (by omega) HG.out.1 hyz).mono ?_
      rintro e w2 ⟨rfl, hw⟩
      have hb := hw.below
      clear hw
      replace HB := Aside0.mk (below_step HB.out hb)
      replace BK := Aside0.mk (blk_below BK.out hb)
      replace BK_c0 : (_ : Option Value) = some (.int .i64 x) := (blk_cell BK.out 0).trans rfl
      replace BK_c1 : (_ : Option Value) = some (.int .i64 y) := (blk_cell BK.out 1).trans rfl
      replace BK_c2 : (_ : Option Value) = some (.int .i64 z) := (blk_cell BK.out 2).trans rfl
      replace HR := Aside0.mk (Kd.C_below HR.out hb)
      clear hb
      go_wp2_with fail
      refine (span_yes _ _ r x z _ HR.out hcr (by omega) HG.out.1 hxz).mono ?_
      rintro e w3 ⟨rfl, hw⟩
      have hb := hw.below
      clear hw
      replace HB := Aside0.mk (below_step HB.out hb)
      replace BK := Aside0.mk (blk_below BK.out hb)
      replace BK_c0 : (_ : Option Value) = some (.int .i64 x) := (blk_cell BK.out 0).trans rfl
      replace BK_c1 : (_ : Option Value) = some (.int .i64 y) := (blk_cell BK.out 1).trans rfl
      replace BK_c2 : (_ : Option Value) = some (.int .i64 z) := (blk_cell BK.out 2).trans rfl
      replace HR := Aside0.mk (Kd.C_below HR.out hb)
      clear hb
      go_wp2
      go_loopg [15, 16, 17] r.length (fun kq vi v16 v17 w' => ∃ i : Nat, vi = .int .i64 i ∧ i ≤ r.length ∧ Aside0 (kq = r.length - i) ∧ Aside0 (Kd.C (Kd.int .i64) w' A r.length r) ∧ Aside0 (Below w.heap.size w w') ∧ Aside0 (w'.heap[w.heap.size]? = some (.cells #[.int .i64 x, .int .i64 y, .int .i64 z] 36 (0, 0))))
      case atStart => exact ⟨0, rfl, by omega, ⟨by omega⟩, HR, HB, BK⟩
      case round =>
        clear HR HB BK BK_c0 BK_c1 BK_c2
        obtain ⟨i, rfl, hi, HK, HR, HB, BK⟩ := hrel
        have BK_c0 : (_ : Option Value) = some (.int .i64 x) := (blk_cell BK.out 0).trans rfl
        have BK_c1 : (_ : Option Value) = some (.int .i64 y) := (blk_cell BK.out 1).trans rfl
        have BK_c2 : (_ : Option Value) = some (.int .i64 z) := (blk_cell BK.out 2).trans rfl
        by_cases hlt : i < r.length
        · obtain ⟨ad, e, hx⟩ := Kd.at_int HR.out (i : Int) (by omega) (by omega)
          cases e
          rw [Int.toNat_natCast] at hx
          have hns := near_self HG.out hlt
          rw [show rd r (i : Int) = r.getD i 0 from rfl] at hx
          have hbx := rank_below (key := x) HG.out.1 hlt
          have hby := rank_below (key := y) HG.out.1 hlt
          have HN := Aside0.mk hns
          clear hns
          obtain ⟨v, hv⟩ : ∃ v, r.getD i 0 = v := ⟨_, rfl⟩
          rw [hv] at hx hbx hby HN
          clear hv
          by_cases c1 : i < rankN r x
          · have f1 : v < x := hbx.2 c1
            have f2 : ¬ rankN r x ≤ i := by omega
            have f3 : ¬ x ≤ v := by omega
            have g2 : decide (rankN r x ≤ i) = false := decide_eq_false f2
            have g3 : decide (x ≤ v) = false := decide_eq_false f3
            clear hbx hby
            go_wp2
            go_quiet (fail)
            go_wp2_with fail
            refine (near_yes _ _ r v _ (Kd.C_drewN HR.out _) hcr (by omega) HG.out.1 (by omega)).mono ?_
            rintro e w3 ⟨rfl, hw⟩
            rw [HN.out]
            go_wp2
            go_roundg (r.length - (i + 1))
            case measure => have := HK.out; omega
            case rel => exact ⟨i + 1, by go_num, by omega, ⟨rfl⟩, ⟨Kd.C_below (Kd.C_drewN HR.out _) hw.below⟩, ⟨below_step (pw_below_drewN HB.out _) hw.below⟩, ⟨blk_below (blk_drewN BK.out _) hw.below⟩⟩
          · have f1 : ¬ v < x := fun h => c1 (hbx.1 h)
            have f2 : rankN r x ≤ i := by omega
            have f3 : x ≤ v := by omega
            have g2 : decide (rankN r x ≤ i) = true := decide_eq_true f2
            have g3 : decide (x ≤ v) = true := decide_eq_true f3
            by_cases c2 : i < rankN r y
            · have f4 : v < y := hby.2 c2
              have g4 : decide (i < rankN r y) = true := decide_eq_true c2
              have g5 : decide (v < y) = true := decide_eq_true f4
              clear hbx hby
              go_wp2
              go_quiet (fail)
              go_wp2_with fail
              refine (near_yes _ _ r v _ (Kd.C_drewN HR.out _) hcr (by omega) HG.out.1 (by omega)).mono ?_
              rintro e w3 ⟨rfl, hw⟩
              rw [HN.out]
              go_wp2
              go_roundg (r.length - (i + 1))
              case measure => have := HK.out; omega
              case rel => exact ⟨i + 1, by go_num, by omega, ⟨rfl⟩, ⟨Kd.C_below (Kd.C_drewN HR.out _) hw.below⟩, ⟨below_step (pw_below_drewN HB.out _) hw.below⟩, ⟨blk_below (blk_drewN BK.out _) hw.below⟩⟩
            · have f4 : ¬ v < y := fun h => c2 (hby.1 h)
              have g4 : decide (i < rankN r y) = false := decide_eq_false c2
              have g5 : decide (v < y) = false := decide_eq_false f4
              clear hbx hby
              go_wp2
              go_quiet (fail)
              go_wp2_with fail
              refine (near_yes _ _ r v _ (Kd.C_drewN HR.out _) hcr (by omega) HG.out.1 (by omega)).mono ?_
              rintro e w3 ⟨rfl, hw⟩
              rw [HN.out]
              go_wp2
              go_roundg (r.length - (i + 1))
              case measure => have := HK.out; omega
              case rel => exact ⟨i + 1, by go_num, by omega, ⟨rfl⟩, ⟨Kd.C_below (Kd.C_drewN HR.out _) hw.below⟩, ⟨below_step (pw_below_drewN HB.out _) hw.below⟩, ⟨blk_below (blk_drewN BK.out _) hw.below⟩⟩
        · go_wp2_with fail
          refine (awake_any _).mono ?_
          rintro e w4 ⟨rfl, hw⟩
          go_wp2
          go_ret
          exact ⟨rfl, below_step HB.out hw⟩
    · have hyz' : z < y := by omega
      go_wp2_with fail
      refine (span_yes _ _ r x y _ HR.out hcr (by omega) HG.out.1 hxy).mono ?_
      rintro e w4 ⟨rfl, hw⟩
      have hb := hw.below
      clear hw
      replace HB := Aside0.mk (below_step HB.out hb)
      replace BK := Aside0.mk (blk_below BK.out hb)
      replace BK_c0 : (_ : Option Value) = some (.int .i64 x) := (blk_cell BK.out 0).trans rfl
      replace BK_c1 : (_ : Option Value) = some (.int .i64 y) := (blk_cell BK.out 1).trans rfl
      replace BK_c2 : (_ : Option Value) = some (.int .i64 z) := (blk_cell BK.out 2).trans rfl
      replace HR := Aside0.mk (Kd.C_below HR.out hb)
      clear hb
      go_wp2_with fail
      refine (span_arg _ _ r y z _ HR.out hcr (by omega) HG.out.1 hyz').mono ?_
      rintro e w5 ⟨rfl, hw⟩
      have hb := hw.below
      clear hw
      replace HB := Aside0.mk (below_step HB.out hb)
      replace BK := Aside0.mk (blk_below BK.out hb)
      replace BK_c0 : (_ : Option Value) = some (.int .i64 x) := (blk_cell BK.out 0).trans rfl
      replace BK_c1 : (_ : Option Value) = some (.int .i64 y) := (blk_cell BK.out 1).trans rfl
      replace BK_c2 : (_ : Option Value) = some (.int .i64 z) := (blk_cell BK.out 2).trans rfl
      replace HR := Aside0.mk (Kd.C_below HR.out hb)
      clear hb
      go_wp2_with fail
      refine (span_any _ _ r x z _ HR.out hcr (by omega) HG.out.1).mono ?_
      rintro e w6 ⟨rfl, hw⟩
      have hb := hw.below
      clear hw
      replace HB := Aside0.mk (below_step HB.out hb)
      replace BK := Aside0.mk (blk_below BK.out hb)
      replace BK_c0 : (_ : Option Value) = some (.int .i64 x) := (blk_cell BK.out 0).trans rfl
      replace BK_c1 : (_ : Option Value) = some (.int .i64 y) := (blk_cell BK.out 1).trans rfl
      replace BK_c2 : (_ : Option Value) = some (.int .i64 z) := (blk_cell BK.out 2).trans rfl
      replace HR := Aside0.mk (Kd.C_below HR.out hb)
      clear hb
      rw [HS3.out]
      go_wp2
      go_loopg [15, 16, 17] r.length (fun kq vi v16 v17 w' => ∃ i : Nat, vi = .int .i64 i ∧ i ≤ r.length ∧ Aside0 (kq = r.length - i) ∧ Aside0 (Kd.C (Kd.int .i64) w' A r.length r) ∧ Aside0 (Below w.heap.size w w') ∧ Aside0 (w'.heap[w.heap.size]? = some (.cells #[.int .i64 x, .int .i64 y, .int .i64 z] 36 (0, 0))))
      case atStart => exact ⟨0, rfl, by omega, ⟨by omega⟩, HR, HB, BK⟩
      case round =>
        clear HR HB BK BK_c0 BK_c1 BK_c2
        obtain ⟨i, rfl, hi, HK, HR, HB, BK⟩ := hrel
        have BK_c0 : (_ : Option Value) = some (.int .i64 x) := (blk_cell BK.out 0).trans rfl
        have BK_c1 : (_ : Option Value) = some (.int .i64 y) := (blk_cell BK.out 1).trans rfl
        have BK_c2 : (_ : Option Value) = some (.int .i64 z) := (blk_cell BK.out 2).trans rfl
        by_cases hlt : i < r.length
        · obtain ⟨ad, e, hx⟩ := Kd.at_int HR.out (i : Int) (by omega) (by omega)
          cases e
          rw [Int.toNat_natCast] at hx
          have hns := near_self HG.out hlt
          rw [show rd r (i : Int) = r.getD i 0 from rfl] at hx
          have hbx := rank_below (key := x) HG.out.1 hlt
          have hby := rank_below (key := y) HG.out.1 hlt
          have HN := Aside0.mk hns
          clear hns
          obtain ⟨v, hv⟩ : ∃ v, r.getD i 0 = v := ⟨_, rfl⟩
          rw [hv] at hx hbx hby HN
          clear hv
          by_cases c1 : i < rankN r x
          · have f1 : v < x := hbx.2 c1
            have f2 : ¬ rankN r x ≤ i := by omega
            have f3 : ¬ x ≤ v := by omega
            have g2 : decide (rankN r x ≤ i) = false := decide_eq_false f2
            have g3 : decide (x ≤ v) = false := decide_eq_false f3
            clear hbx hby
            go_wp2
            go_quiet (fail)
            go_wp2_with fail
            refine (near_yes _ _ r v _ (Kd.C_drewN HR.out _) hcr (by omega) HG.out.1 (by omega)).mono ?_
            rintro e w3 ⟨rfl, hw⟩
            rw [HN.out]
            go_wp2
            go_roundg (r.length - (i + 1))
            case measure => have := HK.out; omega
            case rel => exact ⟨i + 1, by go_num, by omega, ⟨rfl⟩, ⟨Kd.C_below (Kd.C_drewN HR.out _) hw.below⟩, ⟨below_step (pw_below_drewN HB.out _) hw.below⟩, ⟨blk_below (blk_drewN BK.out _) hw.below⟩⟩
          · have f1 : ¬ v < x := fun h => c1 (hbx.1 h)
            have f2 : rankN r x ≤ i := by omega
            have f3 : x ≤ v := by omega
            have g2 : decide (rankN r x ≤ i) = true := decide_eq_true f2
            have g3 : decide (x ≤ v) = true := decide_eq_true f3
            by_cases c2 : i < rankN r y
            · have f4 : v < y := hby.2 c2
              have g4 : decide (i < rankN r y) = true := decide_eq_true c2
              have g5 : decide (v < y) = true := decide_eq_true f4
              clear hbx hby
              go_wp2
              go_quiet (fail)
              go_wp2_with fail
              refine (near_yes _ _ r v _ (Kd.C_drewN HR.out _) hcr (by omega) HG.out.1 (by omega)).mono ?_
              rintro e w3 ⟨rfl, hw⟩
              rw [HN.out]
              go_wp2
              go_roundg (r.length - (i + 1))
              case measure => have := HK.out; omega
              case rel => exact ⟨i + 1, by go_num, by omega, ⟨rfl⟩, ⟨Kd.C_below (Kd.C_drewN HR.out _) hw.below⟩, ⟨below_step (pw_below_drewN HB.out _) hw.below⟩, ⟨blk_below (blk_drewN BK.out _) hw.below⟩⟩
            · have f4 : ¬ v < y := fun h => c2 (hby.1 h)
              have g4 : decide (i < rankN r y) = false := decide_eq_false c2
              have g5 : decide (v < y) = false := decide_eq_false f4
              clear hbx hby
              go_wp2
              go_quiet (fail)
              go_wp2_with fail
              refine (near_yes _ _ r v _ (Kd.C_drewN HR.out _) hcr (by omega) HG.out.1 (by omega)).mono ?_
              rintro e w3 ⟨rfl, hw⟩
              rw [HN.out]
              go_wp2
              go_roundg (r.length - (i + 1))
              case measure => have := HK.out; omega
              case rel => exact ⟨i + 1, by go_num, by omega, ⟨rfl⟩, ⟨Kd.C_below (Kd.C_drewN HR.out _) hw.below⟩, ⟨below_step (pw_below_drewN HB.out _) hw.below⟩, ⟨blk_below (blk_drewN BK.out _) hw.below⟩⟩
        · go_wp2_with fail
          refine (awake_any _).mono ?_
          rintro e w4 ⟨rfl, hw⟩
          go_wp2
          go_ret
          exact ⟨rfl, below_step HB.out hw⟩
  · have hxy' : y < x := by omega
    obtain ⟨c', d, e2, HS2⟩ : ∃ a b e1 : Int, Aside0 (spanA r y z = (a, b, e1)) := ⟨_, _, _, ⟨rfl⟩⟩
    go_wp2_with fail
    refine (span_arg _ _ r x y _ HR.out hcr (by omega) HG.out.1 hxy').mono ?_
    rintro e w7 ⟨rfl, hw⟩
    have hb := hw.below
    clear hw
    replace HB := Aside0.mk (below_step HB.out hb)
    replace BK := Aside0.mk (blk_below BK.out hb)
    replace BK_c0 : (_ : Option Value) = some (.int .i64 x) := (blk_cell BK.out 0).trans rfl
    replace BK_c1 : (_ : Option Value) = some (.int .i64 y) := (blk_cell BK.out 1).trans rfl
    replace BK_c2 : (_ : Option Value) = some (.int .i64 z) := (blk_cell BK.out 2).trans rfl
    replace HR := Aside0.mk (Kd.C_below HR.out hb)
    clear hb
    go_wp2_with fail
    refine (span_any _ _ r y z _ HR.out hcr (by omega) HG.out.1).mono ?_
    rintro e w8 ⟨rfl, hw⟩
    have hb := hw.below
    clear hw
    replace HB := Aside0.mk (below_step HB.out hb)
    replace BK := Aside0.mk (blk_below BK.out hb)
    replace BK_c0 : (_ : Option Value) = some (.int .i64 x) := (blk_cell BK.out 0).trans rfl
    replace BK_c1 : (_ : Option Value) = some (.int .i64 y) := (blk_cell BK.out 1).trans rfl
    replace BK_c2 : (_ : Option Value) = some (.int .i64 z) := (blk_cell BK.out 2).trans rfl
    replace HR := Aside0.mk (Kd.C_below HR.out hb)
    clear hb
    rw [HS2.out]
    go_wp2_with fail
    refine (span_any _ _ r x z _ HR.out hcr (by omega) HG.out.1).mono ?_
    rintro e w9 ⟨rfl, hw⟩
    have hb := hw.below
    clear hw
    replace HB := Aside0.mk (below_step HB.out hb)
    replace BK := Aside0.mk (blk_below BK.out hb)
    replace BK_c0 : (_ : Option Value) = some (.int .i64 x) := (blk_cell BK.out 0).trans rfl
    replace BK_c1 : (_ : Option Value) = some (.int .i64 y) := (blk_cell BK.out 1).trans rfl
    replace BK_c2 : (_ : Option Value) = some (.int .i64 z) := (blk_cell BK.out 2).trans rfl
    replace HR := Aside0.mk (Kd.C_below HR.out hb)
    clear hb
    rw [HS3.out]
    go_wp2
    go_loopg [15, 16, 17] r.length (fun kq vi v16 v17 w' => ∃ i : Nat, vi = .int .i64 i ∧ i ≤ r.length ∧ Aside0 (kq = r.length - i) ∧ Aside0 (Kd.C (Kd.int .i64) w' A r.length r) ∧ Aside0 (Below w.heap.size w w') ∧ Aside0 (w'.heap[w.heap.size]? = some (.cells #[.int .i64 x, .int .i64 y, .int .i64 z] 36 (0, 0))))
    case atStart => exact ⟨0, rfl, by omega, ⟨by omega⟩, HR, HB, BK⟩
    case round =>
      clear HR HB BK BK_c0 BK_c1 BK_c2
      obtain ⟨i, rfl, hi, HK, HR, HB, BK⟩ := hrel
      have BK_c0 : (_ : Option Value) = some (.int .i64 x) := (blk_cell BK.out 0).trans rfl
      have BK_c1 : (_ : Option Value) = some (.int .i64 y) := (blk_cell BK.out 1).trans rfl
      have BK_c2 : (_ : Option Value) = some (.int .i64 z) := (blk_cell BK.out 2).trans rfl
      by_cases hlt : i < r.length
      · obtain ⟨ad, e, hx⟩ := Kd.at_int HR.out (i : Int) (by omega) (by omega)
        cases e
        rw [Int.toNat_natCast] at hx
        have hns := near_self HG.out hlt
        rw [show rd r (i : Int) = r.getD i 0 from rfl] at hx
        have hbx := rank_below (key := x) HG.out.1 hlt
        have hby := rank_below (key := y) HG.out.1 hlt
        have HN := Aside0.mk hns
        clear hns
        obtain ⟨v, hv⟩ : ∃ v, r.getD i 0 = v := ⟨_, rfl⟩
        rw [hv] at hx hbx hby HN
        clear hv
        clear hbx hby
        go_wp2
        go_quiet (fail)
        go_wp2_with fail
        refine (near_yes _ _ r v _ (Kd.C_drewN HR.out _) hcr (by omega) HG.out.1 (by omega)).mono ?_
        rintro e w3 ⟨rfl, hw⟩
        rw [HN.out]
        go_wp2
        go_roundg (r.length - (i + 1))
        case measure => have := HK.out; omega
        case rel => exact ⟨i + 1, by go_num, by omega, ⟨rfl⟩, ⟨Kd.C_below (Kd.C_drewN HR.out _) hw.below⟩, ⟨below_step (pw_below_drewN HB.out _) hw.below⟩, ⟨blk_below (blk_drewN BK.out _) hw.below⟩⟩
      · go_wp2_with fail
        refine (awake_any _).mono ?_
        rintro e w4 ⟨rfl, hw⟩
        go_wp2
        go_ret
        exact ⟨rfl, below_step HB.out hw⟩
theorem partsLaw {W0 : World} (A : Option Addr) (c : Nat) (l : List Int) (g : Kd.C (Kd.int .i64) W0 A l.length l) (hc : l.length ≤ c) (y : l.length * 8 ≤ 140737488351232) (w : ∀ x ∈ l, (Lit.int .i64 x).wf = true)
    (a : Int) (wa : (Lit.int .i64 a).wf = true) (b : Int) (wb : (Lit.int .i64 b).wf = true) (d : Int) (wd : (Lit.int .i64 d).wf = true) (W : World) (hW : W = W0 := by rfl) : Calls Try.prog 5 #[.slice A l.length c, .agg #[.int .i64 a, .int .i64 b, .int .i64 d]] W fun e w' => e = .returned (.bool true) ∧ Below W.heap.size W w' := by
  subst hW
  exact parts_any A c l a b d W g hc
end Go.Proofs.Ytmjfnifdgneooaa.A6
