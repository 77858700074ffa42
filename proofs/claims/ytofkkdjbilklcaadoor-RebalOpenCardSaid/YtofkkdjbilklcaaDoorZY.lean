/- The law RebalOpen walked: it returns true, whatever the array, the segment and the slot. -/
import Derived.Test.YtofkkdjbilklcaaDoorZA
import Derived.Test.YtofkkdjbilklcaaDoorZQ
import Derived.BigQuiet
namespace Go.Proofs.YtofkkdjbilklcaaDoor.ZY
open Go.RowKit Go.Shelf Go.Proofs.YtofkkdjbilklcaaDoorW.PrintWords Go.Proofs.YtofkkdjbilklcaaDoorW.PrintLast Go.Proofs.YtofkkdjbilklcaaDoorW.PrintMore G1 G0 Q1 G2 G3 G4 G5 G6 G7 G8 G9 G10 S1 Y1 Y3 Y2 Z0 Z1 Z2 Z3 Z4 ZR ZM ZP CL ZQ ZA
set_option linter.unusedVariables false
set_option linter.unusedSimpArgs false
abbrev T0 : Unit → List Mv → List Ob := fun _ _ => []
section
variable {w : World} {A : Option Addr} {c : Nat} {l : List Int} {s : Int}
set_option maxRecDepth 100000 in
set_option maxHeartbeats 2000000 in
theorem law_out (hT : Tb w) (hr : Kd.C (Kd.int .i64) w A l.length l) (hl : l.length ≤ 9223372036854775807) (hs : -9223372036854775808 ≤ s ∧ s ≤ 9223372036854775807) {a : Int} (bh : Int) (h : a < 0 ∨ 30 < a) :
    Calls Tryd.prog 12 #[.agg #[.int .i64 s, .slice A l.length c], .int .i64 a, .int .i64 bh] w fun e w' => e = .returned (.bool true) ∧ Below w.heap.size w w' := by
  by_cases h0 : a < 0
  · have d0 : decide (a < 0) = true := decide_eq_true h0
    clear h
    have HT := Aside0.mk hT
    have HS := Aside0.mk ((Sep.nil w).new_blk #[.int .i64 s, .slice A l.length c] 24)
    have C := Aside0.mk (made_any (c := c) (Kd.C_below hr HS.out.below) hl hs)
    have c0 : (_ : Option Value) = some (.int .i64 s) := (blk_cell (HS.out.blk 0 rfl) 0).trans rfl
    have c1 : (_ : Option Value) = some (.slice A l.length c) := (blk_cell (HS.out.blk 0 rfl) 1).trans rfl
    have hn := (nOf_le s).2.1
    have hlg := G7_len s l
    have hrise := G7_rise s l
    generalize G7 s l = g at *
    generalize nOf s = n at *
    have HN := Aside0.mk (And.intro hn (And.intro hlg hrise))
    clear hT hr hl hs hlg hrise
    go_enter Tryd.func12, Tryd.ntmps12
    go_wp2_with fail
    refine C.out.mono ?_
    clear C c0 c1
    rintro e w1 ⟨p, sb, ob, wb, r, lb, rfl, hs1⟩
    have HS : Aside0 (Sep w w1 [S1.Arr p sb ob wb n g]) := ⟨(HS.out.append hs1).sub (by
      show List.Sublist [S1.Arr p sb ob wb n g] [_, S1.Arr p sb ob wb n g, _]
      exact .cons _ (.cons_cons _ (.cons _ .slnil)))⟩
    clear hs1
    have C := Aside0.mk (awake_any _ (Kd.C_below HT.out HS.out.below))
    go_wp2_with fail
    refine C.out.mono ?_
    clear C
    rintro e w30 ⟨rfl, hb⟩
    replace HS := Aside0.mk (HS.out.step hb)
    clear hb
    go_wp2
    (try rw [Exit.noGoto_ret])
    go_ret
    exact ⟨rfl, HS.out.below⟩
  · have d0 : decide (a < 0) = false := decide_eq_false h0
    have h1 : 30 < a := by omega
    have d1 : decide (30 < a) = true := decide_eq_true h1
    clear h
    have HT := Aside0.mk hT
    have HS := Aside0.mk ((Sep.nil w).new_blk #[.int .i64 s, .slice A l.length c] 24)
    have C := Aside0.mk (made_any (c := c) (Kd.C_below hr HS.out.below) hl hs)
    have c0 : (_ : Option Value) = some (.int .i64 s) := (blk_cell (HS.out.blk 0 rfl) 0).trans rfl
    have c1 : (_ : Option Value) = some (.slice A l.length c) := (blk_cell (HS.out.blk 0 rfl) 1).trans rfl
    have hn := (nOf_le s).2.1
    have hlg := G7_len s l
    have hrise := G7_rise s l
    generalize G7 s l = g at *
    generalize nOf s = n at *
    have HN := Aside0.mk (And.intro hn (And.intro hlg hrise))
    clear hT hr hl hs hlg hrise
    go_enter Tryd.func12, Tryd.ntmps12
    go_wp2_with fail
    refine C.out.mono ?_
    clear C c0 c1
    rintro e w1 ⟨p, sb, ob, wb, r, lb, rfl, hs1⟩
    have HS : Aside0 (Sep w w1 [S1.Arr p sb ob wb n g]) := ⟨(HS.out.append hs1).sub (by
      show List.Sublist [S1.Arr p sb ob wb n g] [_, S1.Arr p sb ob wb n g, _]
      exact .cons _ (.cons_cons _ (.cons _ .slnil)))⟩
    clear hs1
    have C := Aside0.mk (awake_any _ (Kd.C_below HT.out HS.out.below))
    go_wp2_with fail
    refine C.out.mono ?_
    clear C
    rintro e w30 ⟨rfl, hb⟩
    replace HS := Aside0.mk (HS.out.step hb)
    clear hb
    go_wp2
    (try rw [Exit.noGoto_ret])
    go_ret
    exact ⟨rfl, HS.out.below⟩
set_option maxRecDepth 100000 in
set_option maxHeartbeats 2000000 in
theorem law_no (hT : Tb w) (hr : Kd.C (Kd.int .i64) w A l.length l) (hl : l.length ≤ 9223372036854775807) (hs : -9223372036854775808 ≤ s ∧ s ≤ 9223372036854775807) {a : Int} (bh : Int) (h0 : 0 ≤ a) (h1 : a ≤ 30) (hw : winB (nOf s) a 1 = false) :
    Calls Tryd.prog 12 #[.agg #[.int .i64 s, .slice A l.length c], .int .i64 a, .int .i64 bh] w fun e w' => e = .returned (.bool true) ∧ Below w.heap.size w w' := by
  have d0 : decide (a < 0) = false := decide_eq_false (by omega)
  have d1 : decide (30 < a) = false := decide_eq_false (by omega)
  have d2 : decide ((nOf s : Int) < 8 * (a + 1)) = true := decide_eq_true (by have := of_decide_eq_false hw; omega)
  have HW := Aside0.mk hw
  clear hw
  have HT := Aside0.mk hT
  have HS := Aside0.mk ((Sep.nil w).new_blk #[.int .i64 s, .slice A l.length c] 24)
  have C := Aside0.mk (made_any (c := c) (Kd.C_below hr HS.out.below) hl hs)
  have c0 : (_ : Option Value) = some (.int .i64 s) := (blk_cell (HS.out.blk 0 rfl) 0).trans rfl
  have c1 : (_ : Option Value) = some (.slice A l.length c) := (blk_cell (HS.out.blk 0 rfl) 1).trans rfl
  have hn := (nOf_le s).2.1
  have hlg := G7_len s l
  have hrise := G7_rise s l
  generalize G7 s l = g at *
  generalize nOf s = n at *
  have HN := Aside0.mk (And.intro hn (And.intro hlg hrise))
  clear hT hr hl hs hlg hrise
  go_enter Tryd.func12, Tryd.ntmps12
  go_wp2_with fail
  refine C.out.mono ?_
  clear C c0 c1
  rintro e w1 ⟨p, sb, ob, wb, r, lb, rfl, hs1⟩
  have HS : Aside0 (Sep w w1 [S1.Arr p sb ob wb n g]) := ⟨(HS.out.append hs1).sub (by
    show List.Sublist [S1.Arr p sb ob wb n g] [_, S1.Arr p sb ob wb n g, _]
    exact .cons _ (.cons_cons _ (.cons _ .slnil)))⟩
  clear hs1
  have C := Aside0.mk (sclone_any (HS.out.arr 0 rfl))
  go_wp2_with fail
  refine C.out.mono ?_
  clear C
  rintro e w2 ⟨q, qs, qo, qw, g2, rfl, hs1, hsm⟩
  have HS : Aside0 (Sep w w2 [S1.Arr p sb ob wb n g, S1.Arr q qs qo qw n g2]) := ⟨HS.out.append hs1⟩
  have HM := Aside0.mk hsm
  clear hs1 hsm
  have C := Aside0.mk (open_no (s := ()) (T := T0) HS.out HW.out bh (.inl rfl))
  go_wp2_with fail
  refine C.out.mono ?_
  clear C
  rintro e w3 ⟨rfl, _, hb1, hs1⟩
  have HS : Aside0 (Sep w w3 [S1.Arr p sb ob wb n g, S1.Arr q qs qo qw n g2]) := ⟨hs1⟩
  clear hb1 hs1
  obtain ⟨vs, hs⟩ := HS.out.arr 0 rfl
  have C := Aside0.mk (cap_any hs)
  clear hs vs
  go_wp2_with fail
  refine C.out.mono ?_
  clear C
  rintro e w4 ⟨rfl, rfl⟩
  have C := Aside0.mk (awake_any _ (Kd.C_below HT.out HS.out.below))
  go_wp2_with fail
  refine C.out.mono ?_
  clear C
  rintro e w30 ⟨rfl, hb⟩
  replace HS := Aside0.mk (HS.out.step hb)
  clear hb
  go_wp2
  (try rw [Exit.noGoto_ret])
  go_ret
  exact ⟨rfl, HS.out.below⟩
set_option maxRecDepth 100000 in
set_option maxHeartbeats 2000000 in
theorem law_arg (hT : Tb w) (hr : Kd.C (Kd.int .i64) w A l.length l) (hl : l.length ≤ 9223372036854775807) (hs : -9223372036854775808 ≤ s ∧ s ≤ 9223372036854775807) {a : Int} {sg : Nat} (ha : a = (sg : Int)) (bh : Int) (h1 : a ≤ 30) (hw8 : 8 * sg + 8 ≤ nOf s) (hbad : bh ≠ -1 ∧ (bh < 8 * a ∨ 8 * a + 8 ≤ bh)) :
    Calls Tryd.prog 12 #[.agg #[.int .i64 s, .slice A l.length c], .int .i64 a, .int .i64 bh] w fun e w' => e = .returned (.bool true) ∧ Below w.heap.size w w' := by
  have q0 : (bh != -1) = true := bne_iff_ne.2 hbad.1
  by_cases hlo : bh < 8 * a
  · have q1 : decide (bh < 8 * a) = true := decide_eq_true hlo
    have HB := Aside0.mk hbad
    clear hbad
    have d0 : decide (a < 0) = false := decide_eq_false (by omega)
    have d1 : decide (30 < a) = false := decide_eq_false (by omega)
    have d2 : decide ((nOf s : Int) < 8 * (a + 1)) = false := decide_eq_false (by omega)
    have h0 : 0 ≤ a := by omega
    have HW := Aside0.mk (And.intro (show winB (nOf s) (sg : Int) 1 = true from decide_eq_true (by omega)) (And.intro ha.symm hw8))
    clear ha hw8
    have HT := Aside0.mk hT
    have HS := Aside0.mk ((Sep.nil w).new_blk #[.int .i64 s, .slice A l.length c] 24)
    have C := Aside0.mk (made_any (c := c) (Kd.C_below hr HS.out.below) hl hs)
    have c0 : (_ : Option Value) = some (.int .i64 s) := (blk_cell (HS.out.blk 0 rfl) 0).trans rfl
    have c1 : (_ : Option Value) = some (.slice A l.length c) := (blk_cell (HS.out.blk 0 rfl) 1).trans rfl
    have hn := (nOf_le s).2.1
    have hlg := G7_len s l
    have hrise := G7_rise s l
    generalize G7 s l = g at *
    generalize nOf s = n at *
    have HN := Aside0.mk (And.intro hn (And.intro hlg hrise))
    clear hT hr hl hs hlg hrise
    go_enter Tryd.func12, Tryd.ntmps12
    go_wp2_with fail
    refine C.out.mono ?_
    clear C c0 c1
    rintro e w1 ⟨p, sb, ob, wb, r, lb, rfl, hs1⟩
    have HS : Aside0 (Sep w w1 [S1.Arr p sb ob wb n g]) := ⟨(HS.out.append hs1).sub (by
      show List.Sublist [S1.Arr p sb ob wb n g] [_, S1.Arr p sb ob wb n g, _]
      exact .cons _ (.cons_cons _ (.cons _ .slnil)))⟩
    clear hs1
    have C := Aside0.mk (sclone_any (HS.out.arr 0 rfl))
    go_wp2_with fail
    refine C.out.mono ?_
    clear C
    rintro e w2 ⟨q, qs, qo, qw, g2, rfl, hs1, hsm⟩
    have HS : Aside0 (Sep w w2 [S1.Arr p sb ob wb n g, S1.Arr q qs qo qw n g2]) := ⟨HS.out.append hs1⟩
    have HM := Aside0.mk hsm
    clear hs1 hsm
    have C := open_any (st := ()) (T := T0) (tell_no w n g []) HS.out (Nat.le_of_eq HN.out.2.1.symm) HW.out.1 bh
    rw [show openR n sg bh g = ⟨0, 1, ⟨g, []⟩⟩ by unfold openR; rw [if_pos (by rw [HW.out.2.1]; exact HB.out)]] at C
    rw [HW.out.2.1] at C
    have C := Aside0.mk C
    go_wp2_with fail
    refine C.out.mono ?_
    clear C
    rintro e w3 ⟨rfl, _, hs1⟩
    have HS : Aside0 (Sep w w3 [S1.Arr p sb ob wb n g, S1.Arr q qs qo qw n g2]) := ⟨hs1⟩
    clear hs1
    obtain ⟨vs, hs⟩ := HS.out.arr 0 rfl
    have C := Aside0.mk (cap_any hs)
    clear hs vs
    go_wp2_with fail
    refine C.out.mono ?_
    clear C
    rintro e w4 ⟨rfl, rfl⟩
    have C := scount_in (HS.out.arr 1 rfl).choose_spec (a := 8 * sg) (b := 8 * sg + 8) (by omega) HW.out.2.2
    rw [show ((8 * sg : Nat) : Int) = 8 * a by have := HW.out.2.1; omega, show ((8 * sg + 8 : Nat) : Int) = 8 * a + 8 by have := HW.out.2.1; omega, HM.out.on] at C
    generalize ((cntF g.on (8 * sg + 8) - cntF g.on (8 * sg) : Nat) : Int) = full at C
    have C := Aside0.mk C
    go_wp2_with fail
    refine C.out.mono ?_
    clear C
    rintro e w5 ⟨rfl, hd⟩
    replace HS := Aside0.mk (HS.out.step hd.below)
    clear hd
    have C := at_gap (HS.out.arr 1 rfl) bh
    rw [show atV n g2 bh = atV n g bh from same_atV HM.out bh, show atB n g2 bh = atB n g bh from same_atB HM.out bh] at C
    obtain ⟨y0, hy⟩ : ∃ y, atV n g bh = y := ⟨_, rfl⟩
    rw [hy] at C
    generalize atB n g bh = b0 at C
    have C := Aside0.mk C
    go_wp2_with fail
    refine C.out.mono ?_
    clear C
    rintro e w6 ⟨rfl, rfl⟩
    have C := Aside0.mk (awake_any _ (Kd.C_below HT.out HS.out.below))
    go_wp2_with fail
    refine C.out.mono ?_
    clear C
    rintro e w30 ⟨rfl, hb⟩
    replace HS := Aside0.mk (HS.out.step hb)
    clear hb
    go_wp2
    (try rw [Exit.noGoto_ret])
    go_ret
    exact ⟨rfl, HS.out.below⟩
  · have q1 : decide (bh < 8 * a) = false := decide_eq_false hlo
    have h2 : 8 * a + 8 ≤ bh := by omega
    have q2 : decide (8 * a + 8 ≤ bh) = true := decide_eq_true h2
    have HB := Aside0.mk hbad
    clear hbad
    have d0 : decide (a < 0) = false := decide_eq_false (by omega)
    have d1 : decide (30 < a) = false := decide_eq_false (by omega)
    have d2 : decide ((nOf s : Int) < 8 * (a + 1)) = false := decide_eq_false (by omega)
    have h0 : 0 ≤ a := by omega
    have HW := Aside0.mk (And.intro (show winB (nOf s) (sg : Int) 1 = true from decide_eq_true (by omega)) (And.intro ha.symm hw8))
    clear ha hw8
    have HT := Aside0.mk hT
    have HS := Aside0.mk ((Sep.nil w).new_blk #[.int .i64 s, .slice A l.length c] 24)
    have C := Aside0.mk (made_any (c := c) (Kd.C_below hr HS.out.below) hl hs)
    have c0 : (_ : Option Value) = some (.int .i64 s) := (blk_cell (HS.out.blk 0 rfl) 0).trans rfl
    have c1 : (_ : Option Value) = some (.slice A l.length c) := (blk_cell (HS.out.blk 0 rfl) 1).trans rfl
    have hn := (nOf_le s).2.1
    have hlg := G7_len s l
    have hrise := G7_rise s l
    generalize G7 s l = g at *
    generalize nOf s = n at *
    have HN := Aside0.mk (And.intro hn (And.intro hlg hrise))
    clear hT hr hl hs hlg hrise
    go_enter Tryd.func12, Tryd.ntmps12
    go_wp2_with fail
    refine C.out.mono ?_
    clear C c0 c1
    rintro e w1 ⟨p, sb, ob, wb, r, lb, rfl, hs1⟩
    have HS : Aside0 (Sep w w1 [S1.Arr p sb ob wb n g]) := ⟨(HS.out.append hs1).sub (by
      show List.Sublist [S1.Arr p sb ob wb n g] [_, S1.Arr p sb ob wb n g, _]
      exact .cons _ (.cons_cons _ (.cons _ .slnil)))⟩
    clear hs1
    have C := Aside0.mk (sclone_any (HS.out.arr 0 rfl))
    go_wp2_with fail
    refine C.out.mono ?_
    clear C
    rintro e w2 ⟨q, qs, qo, qw, g2, rfl, hs1, hsm⟩
    have HS : Aside0 (Sep w w2 [S1.Arr p sb ob wb n g, S1.Arr q qs qo qw n g2]) := ⟨HS.out.append hs1⟩
    have HM := Aside0.mk hsm
    clear hs1 hsm
    have C := open_any (st := ()) (T := T0) (tell_no w n g []) HS.out (Nat.le_of_eq HN.out.2.1.symm) HW.out.1 bh
    rw [show openR n sg bh g = ⟨0, 1, ⟨g, []⟩⟩ by unfold openR; rw [if_pos (by rw [HW.out.2.1]; exact HB.out)]] at C
    rw [HW.out.2.1] at C
    have C := Aside0.mk C
    go_wp2_with fail
    refine C.out.mono ?_
    clear C
    rintro e w3 ⟨rfl, _, hs1⟩
    have HS : Aside0 (Sep w w3 [S1.Arr p sb ob wb n g, S1.Arr q qs qo qw n g2]) := ⟨hs1⟩
    clear hs1
    obtain ⟨vs, hs⟩ := HS.out.arr 0 rfl
    have C := Aside0.mk (cap_any hs)
    clear hs vs
    go_wp2_with fail
    refine C.out.mono ?_
    clear C
    rintro e w4 ⟨rfl, rfl⟩
    have C := scount_in (HS.out.arr 1 rfl).choose_spec (a := 8 * sg) (b := 8 * sg + 8) (by omega) HW.out.2.2
    rw [show ((8 * sg : Nat) : Int) = 8 * a by have := HW.out.2.1; omega, show ((8 * sg + 8 : Nat) : Int) = 8 * a + 8 by have := HW.out.2.1; omega, HM.out.on] at C
    generalize ((cntF g.on (8 * sg + 8) - cntF g.on (8 * sg) : Nat) : Int) = full at C
    have C := Aside0.mk C
    go_wp2_with fail
    refine C.out.mono ?_
    clear C
    rintro e w5 ⟨rfl, hd⟩
    replace HS := Aside0.mk (HS.out.step hd.below)
    clear hd
    have C := at_gap (HS.out.arr 1 rfl) bh
    rw [show atV n g2 bh = atV n g bh from same_atV HM.out bh, show atB n g2 bh = atB n g bh from same_atB HM.out bh] at C
    obtain ⟨y0, hy⟩ : ∃ y, atV n g bh = y := ⟨_, rfl⟩
    rw [hy] at C
    generalize atB n g bh = b0 at C
    have C := Aside0.mk C
    go_wp2_with fail
    refine C.out.mono ?_
    clear C
    rintro e w6 ⟨rfl, rfl⟩
    have C := Aside0.mk (awake_any _ (Kd.C_below HT.out HS.out.below))
    go_wp2_with fail
    refine C.out.mono ?_
    clear C
    rintro e w30 ⟨rfl, hb⟩
    replace HS := Aside0.mk (HS.out.step hb)
    clear hb
    go_wp2
    (try rw [Exit.noGoto_ret])
    go_ret
    exact ⟨rfl, HS.out.below⟩
set_option maxRecDepth 100000 in
set_option maxHeartbeats 2000000 in
theorem law_none (hT : Tb w) (hr : Kd.C (Kd.int .i64) w A l.length l) (hl : l.length ≤ 9223372036854775807) (hs : -9223372036854775808 ≤ s ∧ s ≤ 9223372036854775807) {a : Int} {sg : Nat} (ha : a = (sg : Int)) (bh : Int) (h1 : a ≤ 30) (hw8 : 8 * sg + 8 ≤ nOf s) (hb1 : bh ≠ -1) (hb2 : 8 * a ≤ bh) (hb3 : bh < 8 * a + 8) (hb4 : (G7 s l).on bh.toNat = false) :
    Calls Tryd.prog 12 #[.agg #[.int .i64 s, .slice A l.length c], .int .i64 a, .int .i64 bh] w fun e w' => e = .returned (.bool true) ∧ Below w.heap.size w w' := by
  have q0 : (bh != -1) = true := bne_iff_ne.2 hb1
  have q1 : decide (bh < 8 * a) = false := decide_eq_false (by omega)
  have q2 : decide (8 * a + 8 ≤ bh) = false := decide_eq_false (by omega)
  have HB := Aside0.mk (And.intro hb1 (And.intro hb2 (And.intro hb3 hb4)))
  clear hb1 hb2 hb3 hb4
  have d0 : decide (a < 0) = false := decide_eq_false (by omega)
  have d1 : decide (30 < a) = false := decide_eq_false (by omega)
  have d2 : decide ((nOf s : Int) < 8 * (a + 1)) = false := decide_eq_false (by omega)
  have h0 : 0 ≤ a := by omega
  have HW := Aside0.mk (And.intro (show winB (nOf s) (sg : Int) 1 = true from decide_eq_true (by omega)) (And.intro ha.symm hw8))
  clear ha hw8
  have HT := Aside0.mk hT
  have HS := Aside0.mk ((Sep.nil w).new_blk #[.int .i64 s, .slice A l.length c] 24)
  have C := Aside0.mk (made_any (c := c) (Kd.C_below hr HS.out.below) hl hs)
  have c0 : (_ : Option Value) = some (.int .i64 s) := (blk_cell (HS.out.blk 0 rfl) 0).trans rfl
  have c1 : (_ : Option Value) = some (.slice A l.length c) := (blk_cell (HS.out.blk 0 rfl) 1).trans rfl
  have hn := (nOf_le s).2.1
  have hlg := G7_len s l
  have hrise := G7_rise s l
  generalize G7 s l = g at *
  generalize nOf s = n at *
  have HN := Aside0.mk (And.intro hn (And.intro hlg hrise))
  clear hT hr hl hs hlg hrise
  go_enter Tryd.func12, Tryd.ntmps12
  go_wp2_with fail
  refine C.out.mono ?_
  clear C c0 c1
  rintro e w1 ⟨p, sb, ob, wb, r, lb, rfl, hs1⟩
  have HS : Aside0 (Sep w w1 [S1.Arr p sb ob wb n g]) := ⟨(HS.out.append hs1).sub (by
    show List.Sublist [S1.Arr p sb ob wb n g] [_, S1.Arr p sb ob wb n g, _]
    exact .cons _ (.cons_cons _ (.cons _ .slnil)))⟩
  clear hs1
  have C := Aside0.mk (sclone_any (HS.out.arr 0 rfl))
  go_wp2_with fail
  refine C.out.mono ?_
  clear C
  rintro e w2 ⟨q, qs, qo, qw, g2, rfl, hs1, hsm⟩
  have HS : Aside0 (Sep w w2 [S1.Arr p sb ob wb n g, S1.Arr q qs qo qw n g2]) := ⟨HS.out.append hs1⟩
  have HM := Aside0.mk hsm
  clear hs1 hsm
  have C := open_any (st := ()) (T := T0) (tell_no w n g []) HS.out (Nat.le_of_eq HN.out.2.1.symm) HW.out.1 bh
  rw [show openR n sg bh g = ⟨0, 14, ⟨g, []⟩⟩ by unfold openR; rw [if_neg (by have := HB.out; have := HW.out.2.1; omega), if_pos ⟨HB.out.1, HB.out.2.2.2⟩]] at C
  rw [HW.out.2.1] at C
  have C := Aside0.mk C
  go_wp2_with fail
  refine C.out.mono ?_
  clear C
  rintro e w3 ⟨rfl, _, hs1⟩
  have HS : Aside0 (Sep w w3 [S1.Arr p sb ob wb n g, S1.Arr q qs qo qw n g2]) := ⟨hs1⟩
  clear hs1
  obtain ⟨vs, hs⟩ := HS.out.arr 0 rfl
  have C := Aside0.mk (cap_any hs)
  clear hs vs
  go_wp2_with fail
  refine C.out.mono ?_
  clear C
  rintro e w4 ⟨rfl, rfl⟩
  have C := scount_in (HS.out.arr 1 rfl).choose_spec (a := 8 * sg) (b := 8 * sg + 8) (by omega) HW.out.2.2
  rw [show ((8 * sg : Nat) : Int) = 8 * a by have := HW.out.2.1; omega, show ((8 * sg + 8 : Nat) : Int) = 8 * a + 8 by have := HW.out.2.1; omega, HM.out.on] at C
  generalize ((cntF g.on (8 * sg + 8) - cntF g.on (8 * sg) : Nat) : Int) = full at C
  have C := Aside0.mk C
  go_wp2_with fail
  refine C.out.mono ?_
  clear C
  rintro e w5 ⟨rfl, hd⟩
  replace HS := Aside0.mk (HS.out.step hd.below)
  clear hd
  have C := at_gap (HS.out.arr 1 rfl) bh
  rw [show atV n g2 bh = atV n g bh from same_atV HM.out bh, show atB n g2 bh = atB n g bh from same_atB HM.out bh] at C
  obtain ⟨y0, hy⟩ : ∃ y, atV n g bh = y := ⟨_, rfl⟩
  rw [hy] at C
  have hon : atB n g bh = false := by
    unfold atB
    rw [HB.out.2.2.2, Bool.and_false]
  rw [hon] at C
  clear hon
  have C := Aside0.mk C
  go_wp2_with fail
  refine C.out.mono ?_
  clear C
  rintro e w6 ⟨rfl, rfl⟩
  have C := Aside0.mk (awake_any _ (Kd.C_below HT.out HS.out.below))
  go_wp2_with fail
  refine C.out.mono ?_
  clear C
  rintro e w30 ⟨rfl, hb⟩
  replace HS := Aside0.mk (HS.out.step hb)
  clear hb
  go_wp2
  (try rw [Exit.noGoto_ret])
  go_ret
  exact ⟨rfl, HS.out.below⟩
set_option maxRecDepth 100000 in
set_option maxHeartbeats 2000000 in
theorem law_full (hT : Tb w) (hr : Kd.C (Kd.int .i64) w A l.length l) (hl : l.length ≤ 9223372036854775807) (hs : -9223372036854775808 ≤ s ∧ s ≤ 9223372036854775807) {a : Int} {sg : Nat} (ha : a = (sg : Int)) (bh : Int) (h1 : a ≤ 30) (hw8 : 8 * sg + 8 ≤ nOf s) (hb : bh = -1 ∨ (8 * a ≤ bh ∧ bh < 8 * a + 8 ∧ (G7 s l).on bh.toNat = true)) (hall : ∀ i, 8 * sg ≤ i → i < 8 * sg + 8 → (G7 s l).on i = true) :
    Calls Tryd.prog 12 #[.agg #[.int .i64 s, .slice A l.length c], .int .i64 a, .int .i64 bh] w fun e w' => e = .returned (.bool true) ∧ Below w.heap.size w w' := by
  have HB := Aside0.mk hb
  have HA := Aside0.mk hall
  by_cases hb1 : bh = -1
  · have q0 : (bh != -1) = false := by rw [hb1]; rfl
    clear hb hall hb1
    have d0 : decide (a < 0) = false := decide_eq_false (by omega)
    have d1 : decide (30 < a) = false := decide_eq_false (by omega)
    have d2 : decide ((nOf s : Int) < 8 * (a + 1)) = false := decide_eq_false (by omega)
    have h0 : 0 ≤ a := by omega
    have HW := Aside0.mk (And.intro (show winB (nOf s) (sg : Int) 1 = true from decide_eq_true (by omega)) (And.intro ha.symm hw8))
    clear ha hw8
    have HT := Aside0.mk hT
    have HS := Aside0.mk ((Sep.nil w).new_blk #[.int .i64 s, .slice A l.length c] 24)
    have C := Aside0.mk (made_any (c := c) (Kd.C_below hr HS.out.below) hl hs)
    have c0 : (_ : Option Value) = some (.int .i64 s) := (blk_cell (HS.out.blk 0 rfl) 0).trans rfl
    have c1 : (_ : Option Value) = some (.slice A l.length c) := (blk_cell (HS.out.blk 0 rfl) 1).trans rfl
    have hn := (nOf_le s).2.1
    have hlg := G7_len s l
    have hrise := G7_rise s l
    generalize G7 s l = g at *
    generalize nOf s = n at *
    have HN := Aside0.mk (And.intro hn (And.intro hlg hrise))
    clear hT hr hl hs hlg hrise
    go_enter Tryd.func12, Tryd.ntmps12
    go_wp2_with fail
    refine C.out.mono ?_
    clear C c0 c1
    rintro e w1 ⟨p, sb, ob, wb, r, lb, rfl, hs1⟩
    have HS : Aside0 (Sep w w1 [S1.Arr p sb ob wb n g]) := ⟨(HS.out.append hs1).sub (by
      show List.Sublist [S1.Arr p sb ob wb n g] [_, S1.Arr p sb ob wb n g, _]
      exact .cons _ (.cons_cons _ (.cons _ .slnil)))⟩
    clear hs1
    have C := Aside0.mk (sclone_any (HS.out.arr 0 rfl))
    go_wp2_with fail
    refine C.out.mono ?_
    clear C
    rintro e w2 ⟨q, qs, qo, qw, g2, rfl, hs1, hsm⟩
    have HS : Aside0 (Sep w w2 [S1.Arr p sb ob wb n g, S1.Arr q qs qo qw n g2]) := ⟨HS.out.append hs1⟩
    have HM := Aside0.mk hsm
    clear hs1 hsm
    have C := open_any (st := ()) (T := T0) (tell_no w n g []) HS.out (Nat.le_of_eq HN.out.2.1.symm) HW.out.1 bh
    have hE := openR_full (n := n) (sg := sg) (bh := bh) (g := g) (by rw [HW.out.2.1]; exact HB.out) HA.out
    rw [hE] at C
    have hf : ((cntF g.on (8 * sg + 8) - cntF g.on (8 * sg) : Nat) : Int) = 8 := by have := (cnt_all (f := g.on) (a := 8 * sg) 8).2.2 HA.out; omega
    clear hE
    rw [HW.out.2.1] at C
    have C := Aside0.mk C
    go_wp2_with fail
    refine C.out.mono ?_
    clear C
    rintro e w3 ⟨rfl, _, hs1⟩
    have HS : Aside0 (Sep w w3 [S1.Arr p sb ob wb n g, S1.Arr q qs qo qw n g2]) := ⟨hs1⟩
    clear hs1
    obtain ⟨vs, hs⟩ := HS.out.arr 0 rfl
    have C := Aside0.mk (cap_any hs)
    clear hs vs
    go_wp2_with fail
    refine C.out.mono ?_
    clear C
    rintro e w4 ⟨rfl, rfl⟩
    have C := scount_in (HS.out.arr 1 rfl).choose_spec (a := 8 * sg) (b := 8 * sg + 8) (by omega) HW.out.2.2
    rw [show ((8 * sg : Nat) : Int) = 8 * a by have := HW.out.2.1; omega, show ((8 * sg + 8 : Nat) : Int) = 8 * a + 8 by have := HW.out.2.1; omega, HM.out.on] at C
    rw [hf] at C
    have C := Aside0.mk C
    go_wp2_with fail
    refine C.out.mono ?_
    clear C
    rintro e w5 ⟨rfl, hd⟩
    replace HS := Aside0.mk (HS.out.step hd.below)
    clear hd
    have C := at_gap (HS.out.arr 1 rfl) bh
    rw [show atV n g2 bh = atV n g bh from same_atV HM.out bh, show atB n g2 bh = atB n g bh from same_atB HM.out bh] at C
    obtain ⟨y0, hy⟩ : ∃ y, atV n g bh = y := ⟨_, rfl⟩
    rw [hy] at C
    generalize atB n g bh = b0 at C
    have C := Aside0.mk C
    go_wp2_with fail
    refine C.out.mono ?_
    clear C
    rintro e w6 ⟨rfl, rfl⟩
    clear hf
    obtain ⟨m, hm⟩ : ∃ m, cntF g.on n = m := ⟨_, rfl⟩
    obtain ⟨m2, hm2⟩ : ∃ m2, cntF (g).on n = m2 := ⟨_, rfl⟩
    have hml : (keys (ons g.on g.xs n)).length ≤ 1000000 := by have := cntF_le g.on n; rw [keys, List.length_map, ons_length]; have := HN.out.1; omega
    have HML := Aside0.mk hml
    clear hml
    obtain ⟨vs, hsl⟩ := HS.out.arr 0 rfl
    have C := places_any hsl (Kd.C_below HT.out HS.out.below)
    rw [hm2] at C
    have C := Aside0.mk C
    clear hsl vs
    go_wp2_with fail
    refine C.out.mono ?_
    clear C
    rintro e wr1 ⟨Awr1, cwr1, rfl, g1wr1, g2wr1, _, hb⟩
    replace HS := Aside0.mk (HS.out.step hb)
    have HR1 := Aside0.mk (And.intro g1wr1 g2wr1)
    clear g1wr1 g2wr1 hb
    obtain ⟨vs, hsl⟩ := HS.out.arr 1 rfl
    have C := places_any hsl (Kd.C_below HT.out HS.out.below)
    rw [HM.out.ons, HM.out.on, hm] at C
    have C := Aside0.mk C
    clear hsl vs
    go_wp2_with fail
    refine C.out.mono ?_
    clear C
    rintro e wr2 ⟨Awr2, cwr2, rfl, g1wr2, g2wr2, _, hb⟩
    replace HS := Aside0.mk (HS.out.step hb)
    have C := ints_any (Kd.C_below HR1.out.2 hb) HR1.out.1 g2wr2 g1wr2 HML.out
    rw [decide_eq_true rfl] at C
    have C := Aside0.mk C
    clear g1wr2 g2wr2 hb hm hm2
    go_wp2_with fail
    refine C.out.mono ?_
    clear C
    rintro e wr3 ⟨rfl, hd⟩
    replace HS := Aside0.mk (HS.out.step hd.below)
    clear hd
    have C := Aside0.mk (awake_any _ (Kd.C_below HT.out HS.out.below))
    go_wp2_with fail
    refine C.out.mono ?_
    clear C
    rintro e w30 ⟨rfl, hb⟩
    replace HS := Aside0.mk (HS.out.step hb)
    clear hb
    go_wp2
    (try rw [Exit.noGoto_ret])
    go_ret
    exact ⟨rfl, HS.out.below⟩
  · have q0 : (bh != -1) = true := bne_iff_ne.2 hb1
    have q1 : decide (bh < 8 * a) = false := decide_eq_false (by omega)
    have q2 : decide (8 * a + 8 ≤ bh) = false := decide_eq_false (by omega)
    have HB4 := Aside0.mk (show bh ≠ -1 ∧ 0 ≤ bh ∧ (G7 s l).on bh.toNat = true by rcases hb with h | h; exact absurd h hb1; exact ⟨hb1, by omega, h.2.2⟩)
    clear hb hall hb1
    have d0 : decide (a < 0) = false := decide_eq_false (by omega)
    have d1 : decide (30 < a) = false := decide_eq_false (by omega)
    have d2 : decide ((nOf s : Int) < 8 * (a + 1)) = false := decide_eq_false (by omega)
    have h0 : 0 ≤ a := by omega
    have HW := Aside0.mk (And.intro (show winB (nOf s) (sg : Int) 1 = true from decide_eq_true (by omega)) (And.intro ha.symm hw8))
    clear ha hw8
    have HT := Aside0.mk hT
    have HS := Aside0.mk ((Sep.nil w).new_blk #[.int .i64 s, .slice A l.length c] 24)
    have C := Aside0.mk (made_any (c := c) (Kd.C_below hr HS.out.below) hl hs)
    have c0 : (_ : Option Value) = some (.int .i64 s) := (blk_cell (HS.out.blk 0 rfl) 0).trans rfl
    have c1 : (_ : Option Value) = some (.slice A l.length c) := (blk_cell (HS.out.blk 0 rfl) 1).trans rfl
    have hn := (nOf_le s).2.1
    have hlg := G7_len s l
    have hrise := G7_rise s l
    generalize G7 s l = g at *
    generalize nOf s = n at *
    have HN := Aside0.mk (And.intro hn (And.intro hlg hrise))
    clear hT hr hl hs hlg hrise
    go_enter Tryd.func12, Tryd.ntmps12
    go_wp2_with fail
    refine C.out.mono ?_
    clear C c0 c1
    rintro e w1 ⟨p, sb, ob, wb, r, lb, rfl, hs1⟩
    have HS : Aside0 (Sep w w1 [S1.Arr p sb ob wb n g]) := ⟨(HS.out.append hs1).sub (by
      show List.Sublist [S1.Arr p sb ob wb n g] [_, S1.Arr p sb ob wb n g, _]
      exact .cons _ (.cons_cons _ (.cons _ .slnil)))⟩
    clear hs1
    have C := Aside0.mk (sclone_any (HS.out.arr 0 rfl))
    go_wp2_with fail
    refine C.out.mono ?_
    clear C
    rintro e w2 ⟨q, qs, qo, qw, g2, rfl, hs1, hsm⟩
    have HS : Aside0 (Sep w w2 [S1.Arr p sb ob wb n g, S1.Arr q qs qo qw n g2]) := ⟨HS.out.append hs1⟩
    have HM := Aside0.mk hsm
    clear hs1 hsm
    have C := open_any (st := ()) (T := T0) (tell_no w n g []) HS.out (Nat.le_of_eq HN.out.2.1.symm) HW.out.1 bh
    have hE := openR_full (n := n) (sg := sg) (bh := bh) (g := g) (by rw [HW.out.2.1]; exact HB.out) HA.out
    rw [hE] at C
    have hf : ((cntF g.on (8 * sg + 8) - cntF g.on (8 * sg) : Nat) : Int) = 8 := by have := (cnt_all (f := g.on) (a := 8 * sg) 8).2.2 HA.out; omega
    clear hE
    rw [HW.out.2.1] at C
    have C := Aside0.mk C
    go_wp2_with fail
    refine C.out.mono ?_
    clear C
    rintro e w3 ⟨rfl, _, hs1⟩
    have HS : Aside0 (Sep w w3 [S1.Arr p sb ob wb n g, S1.Arr q qs qo qw n g2]) := ⟨hs1⟩
    clear hs1
    obtain ⟨vs, hs⟩ := HS.out.arr 0 rfl
    have C := Aside0.mk (cap_any hs)
    clear hs vs
    go_wp2_with fail
    refine C.out.mono ?_
    clear C
    rintro e w4 ⟨rfl, rfl⟩
    have C := scount_in (HS.out.arr 1 rfl).choose_spec (a := 8 * sg) (b := 8 * sg + 8) (by omega) HW.out.2.2
    rw [show ((8 * sg : Nat) : Int) = 8 * a by have := HW.out.2.1; omega, show ((8 * sg + 8 : Nat) : Int) = 8 * a + 8 by have := HW.out.2.1; omega, HM.out.on] at C
    rw [hf] at C
    have C := Aside0.mk C
    go_wp2_with fail
    refine C.out.mono ?_
    clear C
    rintro e w5 ⟨rfl, hd⟩
    replace HS := Aside0.mk (HS.out.step hd.below)
    clear hd
    have C := at_gap (HS.out.arr 1 rfl) bh
    rw [show atV n g2 bh = atV n g bh from same_atV HM.out bh, show atB n g2 bh = atB n g bh from same_atB HM.out bh] at C
    obtain ⟨y0, hy⟩ : ∃ y, atV n g bh = y := ⟨_, rfl⟩
    rw [hy] at C
    have hon : atB n g bh = true := by
      unfold atB
      rw [HB4.out.2.2, Bool.and_true]
      have h8 := HW.out.2
      have h9 := HB4.out.2.1
      have h10 := of_decide_eq_false q1
      have h11 := of_decide_eq_false q2
      exact decide_eq_true (by omega)
    rw [hon] at C
    clear hon
    have C := Aside0.mk C
    go_wp2_with fail
    refine C.out.mono ?_
    clear C
    rintro e w6 ⟨rfl, rfl⟩
    clear hf
    obtain ⟨m, hm⟩ : ∃ m, cntF g.on n = m := ⟨_, rfl⟩
    obtain ⟨m2, hm2⟩ : ∃ m2, cntF (g).on n = m2 := ⟨_, rfl⟩
    have hml : (keys (ons g.on g.xs n)).length ≤ 1000000 := by have := cntF_le g.on n; rw [keys, List.length_map, ons_length]; have := HN.out.1; omega
    have HML := Aside0.mk hml
    clear hml
    obtain ⟨vs, hsl⟩ := HS.out.arr 0 rfl
    have C := places_any hsl (Kd.C_below HT.out HS.out.below)
    rw [hm2] at C
    have C := Aside0.mk C
    clear hsl vs
    go_wp2_with fail
    refine C.out.mono ?_
    clear C
    rintro e wr1 ⟨Awr1, cwr1, rfl, g1wr1, g2wr1, _, hb⟩
    replace HS := Aside0.mk (HS.out.step hb)
    have HR1 := Aside0.mk (And.intro g1wr1 g2wr1)
    clear g1wr1 g2wr1 hb
    obtain ⟨vs, hsl⟩ := HS.out.arr 1 rfl
    have C := places_any hsl (Kd.C_below HT.out HS.out.below)
    rw [HM.out.ons, HM.out.on, hm] at C
    have C := Aside0.mk C
    clear hsl vs
    go_wp2_with fail
    refine C.out.mono ?_
    clear C
    rintro e wr2 ⟨Awr2, cwr2, rfl, g1wr2, g2wr2, _, hb⟩
    replace HS := Aside0.mk (HS.out.step hb)
    have C := ints_any (Kd.C_below HR1.out.2 hb) HR1.out.1 g2wr2 g1wr2 HML.out
    rw [decide_eq_true rfl] at C
    have C := Aside0.mk C
    clear g1wr2 g2wr2 hb hm hm2
    go_wp2_with fail
    refine C.out.mono ?_
    clear C
    rintro e wr3 ⟨rfl, hd⟩
    replace HS := Aside0.mk (HS.out.step hd.below)
    clear hd
    have C := Aside0.mk (awake_any _ (Kd.C_below HT.out HS.out.below))
    go_wp2_with fail
    refine C.out.mono ?_
    clear C
    rintro e w30 ⟨rfl, hb⟩
    replace HS := Aside0.mk (HS.out.step hb)
    clear hb
    go_wp2
    (try rw [Exit.noGoto_ret])
    go_ret
    exact ⟨rfl, HS.out.below⟩
set_option maxRecDepth 100000 in
set_option maxHeartbeats 4000000 in
theorem law_ok1 (hT : Tb w) (hr : Kd.C (Kd.int .i64) w A l.length l) (hl : l.length ≤ 9223372036854775807) (hs : -9223372036854775808 ≤ s ∧ s ≤ 9223372036854775807) {a : Int} {sg : Nat} (ha : a = (sg : Int)) (h1 : a ≤ 30) (hw8 : 8 * sg + 8 ≤ nOf s) (hfr : ∃ i, 8 * sg ≤ i ∧ i < 8 * sg + 8 ∧ (G7 s l).on i = false) :
    Calls Tryd.prog 12 #[.agg #[.int .i64 s, .slice A l.length c], .int .i64 a, .int .i64 (-1)] w fun e w' => e = .returned (.bool true) ∧ Below w.heap.size w w' := by
  obtain ⟨bh, hbh⟩ : ∃ bh : Int, bh = -1 := ⟨_, rfl⟩
  have HB : Aside0 (bh = -1 ∨ (8 * a ≤ bh ∧ bh < 8 * a + 8 ∧ (G7 s l).on bh.toNat = true)) := ⟨.inl hbh⟩
  have HA := Aside0.mk hfr
  rw [← hbh]
  have HBH := Aside0.mk hbh
  have q0 : (bh != -1) = false := by rw [hbh]; rfl
  clear hfr hbh
  have d0 : decide (a < 0) = false := decide_eq_false (by omega)
  have d1 : decide (30 < a) = false := decide_eq_false (by omega)
  have d2 : decide ((nOf s : Int) < 8 * (a + 1)) = false := decide_eq_false (by omega)
  have h0 : 0 ≤ a := by omega
  have HW := Aside0.mk (And.intro (show winB (nOf s) (sg : Int) 1 = true from decide_eq_true (by omega)) (And.intro ha.symm hw8))
  clear ha hw8
  have HT := Aside0.mk hT
  have HS := Aside0.mk ((Sep.nil w).new_blk #[.int .i64 s, .slice A l.length c] 24)
  have C := Aside0.mk (made_any (c := c) (Kd.C_below hr HS.out.below) hl hs)
  have c0 : (_ : Option Value) = some (.int .i64 s) := (blk_cell (HS.out.blk 0 rfl) 0).trans rfl
  have c1 : (_ : Option Value) = some (.slice A l.length c) := (blk_cell (HS.out.blk 0 rfl) 1).trans rfl
  have hn := (nOf_le s).2.1
  have hlg := G7_len s l
  have hrise := G7_rise s l
  generalize G7 s l = g at *
  generalize nOf s = n at *
  have HN := Aside0.mk (And.intro hn (And.intro hlg hrise))
  clear hT hr hl hs hlg hrise
  go_enter Tryd.func12, Tryd.ntmps12
  go_wp2_with fail
  refine C.out.mono ?_
  clear C c0 c1
  rintro e w1 ⟨p, sb, ob, wb, r, lb, rfl, hs1⟩
  have HS : Aside0 (Sep w w1 [S1.Arr p sb ob wb n g]) := ⟨(HS.out.append hs1).sub (by
    show List.Sublist [S1.Arr p sb ob wb n g] [_, S1.Arr p sb ob wb n g, _]
    exact .cons _ (.cons_cons _ (.cons _ .slnil)))⟩
  clear hs1
  have C := Aside0.mk (sclone_any (HS.out.arr 0 rfl))
  go_wp2_with fail
  refine C.out.mono ?_
  clear C
  rintro e w2 ⟨q, qs, qo, qw, g2, rfl, hs1, hsm⟩
  have HS : Aside0 (Sep w w2 [S1.Arr p sb ob wb n g, S1.Arr q qs qo qw n g2]) := ⟨HS.out.append hs1⟩
  have HM := Aside0.mk hsm
  clear hs1 hsm
  have C := open_any (st := ()) (T := T0) (tell_no w n g []) HS.out (Nat.le_of_eq HN.out.2.1.symm) HW.out.1 bh
  obtain ⟨k, hk⟩ := openR_ok (n := n) (sg := sg) (bh := bh) (g := g) (Nat.le_of_eq HN.out.2.1.symm) HW.out.2.2 (by rw [HW.out.2.1]; exact HB.out) HN.out.2.2 HA.out
  generalize openR n sg bh g = E at C hk
  obtain ⟨kk, ee, Eg, ms⟩ := E
  obtain rfl : kk = (k : Int) := hk.ek
  obtain rfl : ee = 0 := hk.ee
  dsimp only at C
  have HK := Aside0.mk hk
  clear hk
  have hf : (((cntF g.on (8 * sg + 8) - cntF g.on (8 * sg) : Nat) : Int) == 8) = false := beq_eq_false_iff_ne.2 (fun e => by
    obtain ⟨i, i1, i2, i3⟩ := HA.out
    have := (cnt_all (f := g.on) (a := 8 * sg) 8)
    rw [this.2.1 (by omega) i i1 i2] at i3
    cases i3)
  rw [HW.out.2.1] at C
  have C := Aside0.mk C
  go_wp2_with fail
  refine C.out.mono ?_
  clear C
  rintro e w3 ⟨rfl, _, hs1⟩
  have HS : Aside0 (Sep w w3 [S1.Arr p sb ob wb n Eg, S1.Arr q qs qo qw n g2]) := ⟨hs1⟩
  clear hs1
  obtain ⟨vs, hs⟩ := HS.out.arr 0 rfl
  have C := Aside0.mk (cap_any hs)
  clear hs vs
  go_wp2_with fail
  refine C.out.mono ?_
  clear C
  rintro e w4 ⟨rfl, rfl⟩
  have C := scount_in (HS.out.arr 1 rfl).choose_spec (a := 8 * sg) (b := 8 * sg + 8) (by omega) HW.out.2.2
  rw [show ((8 * sg : Nat) : Int) = 8 * a by have := HW.out.2.1; omega, show ((8 * sg + 8 : Nat) : Int) = 8 * a + 8 by have := HW.out.2.1; omega, HM.out.on] at C
  generalize ((cntF g.on (8 * sg + 8) - cntF g.on (8 * sg) : Nat) : Int) = full at C hf
  have C := Aside0.mk C
  go_wp2_with fail
  refine C.out.mono ?_
  clear C
  rintro e w5 ⟨rfl, hd⟩
  replace HS := Aside0.mk (HS.out.step hd.below)
  clear hd
  have C := at_gap (HS.out.arr 1 rfl) bh
  rw [show atV n g2 bh = atV n g bh from same_atV HM.out bh, show atB n g2 bh = atB n g bh from same_atB HM.out bh] at C
  obtain ⟨y0, hy⟩ : ∃ y, atV n g bh = y := ⟨_, rfl⟩
  rw [hy] at C
  generalize atB n g bh = b0 at C
  have C := Aside0.mk C
  go_wp2_with fail
  refine C.out.mono ?_
  clear C
  rintro e w6 ⟨rfl, rfl⟩
  have HL : Aside0 (∀ i : Int, 8 * a ≤ i → i < 8 * a + 8 → atB n Eg i = true → (i < (k : Int) ↔ bh ≠ -1 ∧ atV n Eg i ≤ y0)) := ⟨fun i i1 i2 i3 => by
    have h := opened_order HK.out HW.out.2.2 (by rw [HW.out.2.1]; exact HB.out) (by rw [HW.out.2.1]; exact i1) (by rw [HW.out.2.1]; exact i2) i3
    rw [hy] at h
    exact h⟩
  clear hy
  have C := at_off (HS.out.arr 0 rfl).choose_spec (i := (k : Int)) (.inr (.inr (by rw [Int.toNat_natCast]; exact HK.out.free)))
  have C := Aside0.mk C
  go_wp2_with fail
  refine C.out.mono ?_
  clear C
  rintro e w7 ⟨rfl, rfl⟩
  have k1 : decide ((k : Int) < 8 * a) = false := decide_eq_false (by have := HK.out.lo; have := HW.out.2.1; omega)
  have k2 : decide (8 * a + 8 ≤ (k : Int)) = false := decide_eq_false (by have := HK.out.hi; have := HW.out.2.1; omega)
  obtain ⟨m, hm⟩ : ∃ m, cntF g.on n = m := ⟨_, rfl⟩
  obtain ⟨m2, hm2⟩ : ∃ m2, cntF (Eg).on n = m2 := ⟨_, rfl⟩
  have hml : (vals (ons g.on g.xs n)).length ≤ 1000000 := by have := cntF_le g.on n; rw [vals, List.length_map, ons_length]; have := HN.out.1; omega
  have HML := Aside0.mk hml
  clear hml
  obtain ⟨vs, hsl⟩ := HS.out.arr 0 rfl
  have C := items_any hsl (Kd.C_below HT.out HS.out.below)
  rw [show vals (ons Eg.on Eg.xs n) = vals (ons g.on g.xs n) from HK.out.items, hm2] at C
  have C := Aside0.mk C
  clear hsl vs
  go_wp2_with fail
  refine C.out.mono ?_
  clear C
  rintro e wr1 ⟨Awr1, cwr1, rfl, g1wr1, g2wr1, _, hb⟩
  replace HS := Aside0.mk (HS.out.step hb)
  have HR1 := Aside0.mk (And.intro g1wr1 g2wr1)
  clear g1wr1 g2wr1 hb
  obtain ⟨vs, hsl⟩ := HS.out.arr 1 rfl
  have C := items_any hsl (Kd.C_below HT.out HS.out.below)
  rw [HM.out.ons, HM.out.on, hm] at C
  have C := Aside0.mk C
  clear hsl vs
  go_wp2_with fail
  refine C.out.mono ?_
  clear C
  rintro e wr2 ⟨Awr2, cwr2, rfl, g1wr2, g2wr2, _, hb⟩
  replace HS := Aside0.mk (HS.out.step hb)
  have C := ints_any (Kd.C_below HR1.out.2 hb) HR1.out.1 g2wr2 g1wr2 HML.out
  rw [decide_eq_true rfl] at C
  have C := Aside0.mk C
  clear g1wr2 g2wr2 hb hm hm2
  go_wp2_with fail
  refine C.out.mono ?_
  clear C
  rintro e wr3 ⟨rfl, hd⟩
  replace HS := Aside0.mk (HS.out.step hd.below)
  clear hd
  clear k1 k2 hf
  go_wp2
  go_loopg [19] 9 (fun kq v19 W => ∃ i : Int, v19 = .int .i64 i ∧ 8 * a ≤ i ∧ i ≤ 8 * a + 8 ∧ Aside0 ((8 * a + 9 - i).toNat ≤ kq) ∧ wr3 = W)
  case atStart => exact ⟨8 * a, rfl, by omega, by omega, ⟨by omega⟩, rfl⟩
  case round =>
    obtain ⟨i, rfl, hi1, hi2, HQ, rfl⟩ := hrel
    by_cases hlt : i < 8 * a + 8
    · have hd1 : decide (i < 8 * a + 8) = true := decide_eq_true hlt
      have C := at_gap (HS.out.arr 0 rfl) i
      have HO := HL.out i hi1 hlt
      generalize atV n Eg i = z at C HO
      have HC := Aside0.mk hlt
      cases hb : atB n Eg i with
      | false =>
        rw [hb] at C
        clear HO hb hlt
        have C := Aside0.mk C
        go_wp2_with fail
        refine C.out.mono ?_
        clear C
        rintro e w8 ⟨rfl, rfl⟩
        go_wp2
        go_roundg ((8 * a + 9 - (i + 1)).toNat)
        case measure => have := HQ.out; have := HC.out; omega
        case rel => exact ⟨i + 1, by go_num, by omega, by have := HC.out; omega, ⟨Nat.le_refl _⟩, rfl⟩
      | true =>
        rw [hb] at C
        have HO := Aside0.mk (HO hb)
        clear hb hlt
        by_cases hik : i < (k : Int)
        · exact absurd HBH.out (HO.out.1 hik).1
        · have e1 : decide (i < (k : Int)) = false := decide_eq_false hik
          skip
          clear hik
          have C := Aside0.mk C
          go_wp2_with fail
          refine C.out.mono ?_
          clear C
          rintro e w8 ⟨rfl, rfl⟩
          go_wp2
          go_roundg ((8 * a + 9 - (i + 1)).toNat)
          case measure => have := HQ.out; have := HC.out; omega
          case rel => exact ⟨i + 1, by go_num, by omega, by have := HC.out; omega, ⟨Nat.le_refl _⟩, rfl⟩
    · obtain rfl : i = 8 * a + 8 := by omega
      clear hlt
      go_wp2
      go_loopg [22] (n + 1) (fun kq v22 W => ∃ i : Nat, v22 = .int .i64 (i : Int) ∧ i ≤ n ∧ Aside0 (n + 1 - i ≤ kq) ∧ wr3 = W)
      case atStart => exact ⟨0, rfl, by omega, ⟨by omega⟩, rfl⟩
      case round =>
        obtain ⟨i, rfl, hi, HQ, rfl⟩ := hrel
        obtain ⟨vs, hs⟩ := HS.out.arr 0 rfl
        have C := Aside0.mk (cap_any hs)
        clear hs vs
        go_wp2_with fail
        refine C.out.mono ?_
        clear C
        rintro e w4 ⟨rfl, rfl⟩
        by_cases hlt : i < n
        · have HC := Aside0.mk hlt
          have hi5 : (i : Int) ≤ 200 := by have := HN.out.1; omega
          have hd2 : decide (i < n) = true := decide_eq_true hlt
          by_cases i1 : (i : Int) < 8 * a
          · have e1 : decide ((i : Int) < 8 * a) = true := decide_eq_true i1
            obtain ⟨r1, r2⟩ := opened_rest HK.out hlt (by have := HW.out.2.1; omega)
            have r1 : atB n Eg (i : Int) = atB n g (i : Int) := r1
            have r2 : atV n Eg (i : Int) = atV n g (i : Int) := r2
            obtain ⟨x, hx⟩ : ∃ x, atV n g (i : Int) = x := ⟨_, rfl⟩
            have x1 : (x != x) = false := by simp
            clear hlt
            cases hb : atB n g (i : Int) with
            | false =>
              have C := at_gap (HS.out.arr 0 rfl) (i : Int)
              rw [r1, r2, hx, hb] at C
              have C := Aside0.mk C
              go_wp2_with fail
              refine C.out.mono ?_
              clear C
              rintro e w9 ⟨rfl, rfl⟩
              have C := at_gap (HS.out.arr 1 rfl) (i : Int)
              rw [same_atV HM.out, same_atB HM.out] at C
              rw [hx, hb] at C
              have C := Aside0.mk C
              go_wp2_with fail
              refine C.out.mono ?_
              clear C
              rintro e w9 ⟨rfl, rfl⟩
              go_wp2
              go_roundg (n - i)
              case measure => have := HQ.out; have := HC.out; omega
              case rel => exact ⟨i + 1, by go_num, by have := HC.out; omega, ⟨by omega⟩, rfl⟩
            | true =>
              have C := at_gap (HS.out.arr 0 rfl) (i : Int)
              rw [r1, r2, hx, hb] at C
              have C := Aside0.mk C
              go_wp2_with fail
              refine C.out.mono ?_
              clear C
              rintro e w9 ⟨rfl, rfl⟩
              have C := at_gap (HS.out.arr 1 rfl) (i : Int)
              rw [same_atV HM.out, same_atB HM.out] at C
              rw [hx, hb] at C
              have C := Aside0.mk C
              go_wp2_with fail
              refine C.out.mono ?_
              clear C
              rintro e w9 ⟨rfl, rfl⟩
              go_wp2
              go_roundg (n - i)
              case measure => have := HQ.out; have := HC.out; omega
              case rel => exact ⟨i + 1, by go_num, by have := HC.out; omega, ⟨by omega⟩, rfl⟩
          · have e1 : decide ((i : Int) < 8 * a) = false := decide_eq_false i1
            by_cases i2 : 8 * a + 8 ≤ (i : Int)
            · have e2 : decide (8 * a + 8 ≤ (i : Int)) = true := decide_eq_true i2
              obtain ⟨r1, r2⟩ := opened_rest HK.out hlt (by have := HW.out.2.1; omega)
              have r1 : atB n Eg (i : Int) = atB n g (i : Int) := r1
              have r2 : atV n Eg (i : Int) = atV n g (i : Int) := r2
              obtain ⟨x, hx⟩ : ∃ x, atV n g (i : Int) = x := ⟨_, rfl⟩
              have x1 : (x != x) = false := by simp
              clear hlt
              cases hb : atB n g (i : Int) with
              | false =>
                have C := at_gap (HS.out.arr 0 rfl) (i : Int)
                rw [r1, r2, hx, hb] at C
                have C := Aside0.mk C
                go_wp2_with fail
                refine C.out.mono ?_
                clear C
                rintro e w9 ⟨rfl, rfl⟩
                have C := at_gap (HS.out.arr 1 rfl) (i : Int)
                rw [same_atV HM.out, same_atB HM.out] at C
                rw [hx, hb] at C
                have C := Aside0.mk C
                go_wp2_with fail
                refine C.out.mono ?_
                clear C
                rintro e w9 ⟨rfl, rfl⟩
                go_wp2
                go_roundg (n - i)
                case measure => have := HQ.out; have := HC.out; omega
                case rel => exact ⟨i + 1, by go_num, by have := HC.out; omega, ⟨by omega⟩, rfl⟩
              | true =>
                have C := at_gap (HS.out.arr 0 rfl) (i : Int)
                rw [r1, r2, hx, hb] at C
                have C := Aside0.mk C
                go_wp2_with fail
                refine C.out.mono ?_
                clear C
                rintro e w9 ⟨rfl, rfl⟩
                have C := at_gap (HS.out.arr 1 rfl) (i : Int)
                rw [same_atV HM.out, same_atB HM.out] at C
                rw [hx, hb] at C
                have C := Aside0.mk C
                go_wp2_with fail
                refine C.out.mono ?_
                clear C
                rintro e w9 ⟨rfl, rfl⟩
                go_wp2
                go_roundg (n - i)
                case measure => have := HQ.out; have := HC.out; omega
                case rel => exact ⟨i + 1, by go_num, by have := HC.out; omega, ⟨by omega⟩, rfl⟩
            · have e2 : decide (8 * a + 8 ≤ (i : Int)) = false := decide_eq_false i2
              clear hlt
              have C := at_gap (HS.out.arr 0 rfl) (i : Int)
              generalize atV n Eg (i : Int) = x1 at C
              have C := Aside0.mk C
              go_wp2_with fail
              refine C.out.mono ?_
              clear C
              rintro e w9 ⟨rfl, rfl⟩
              have C := at_gap (HS.out.arr 1 rfl) (i : Int)
              rw [same_atV HM.out, same_atB HM.out] at C
              generalize atB n Eg (i : Int) = b1 at C
              have C := Aside0.mk C
              go_wp2_with fail
              refine C.out.mono ?_
              clear C
              rintro e w9 ⟨rfl, rfl⟩
              go_wp2
              go_roundg (n - i)
              case measure => have := HQ.out; have := HC.out; omega
              case rel => exact ⟨i + 1, by go_num, by have := HC.out; omega, ⟨by omega⟩, rfl⟩
        · obtain rfl : i = n := by omega
          clear hlt
          have C := Aside0.mk (awake_any _ (Kd.C_below HT.out HS.out.below))
          go_wp2_with fail
          refine C.out.mono ?_
          clear C
          rintro e w30 ⟨rfl, hb⟩
          replace HS := Aside0.mk (HS.out.step hb)
          clear hb
          go_wp2
          (try rw [Exit.noGoto_ret])
          go_ret
          exact ⟨rfl, HS.out.below⟩
set_option maxRecDepth 100000 in
set_option maxHeartbeats 4000000 in
theorem law_ok2 (hT : Tb w) (hr : Kd.C (Kd.int .i64) w A l.length l) (hl : l.length ≤ 9223372036854775807) (hs : -9223372036854775808 ≤ s ∧ s ≤ 9223372036854775807) {a : Int} {sg : Nat} (ha : a = (sg : Int)) (bh : Int) (h1 : a ≤ 30) (hw8 : 8 * sg + 8 ≤ nOf s) (hb1 : bh ≠ -1) (hb2 : 8 * a ≤ bh) (hb3 : bh < 8 * a + 8) (hb4 : (G7 s l).on bh.toNat = true) (hfr : ∃ i, 8 * sg ≤ i ∧ i < 8 * sg + 8 ∧ (G7 s l).on i = false) :
    Calls Tryd.prog 12 #[.agg #[.int .i64 s, .slice A l.length c], .int .i64 a, .int .i64 bh] w fun e w' => e = .returned (.bool true) ∧ Below w.heap.size w w' := by
  have HB : Aside0 (bh = -1 ∨ (8 * a ≤ bh ∧ bh < 8 * a + 8 ∧ (G7 s l).on bh.toNat = true)) := ⟨.inr ⟨hb2, hb3, hb4⟩⟩
  have HA := Aside0.mk hfr
  have q0 : (bh != -1) = true := bne_iff_ne.2 hb1
  have q1 : decide (bh < 8 * a) = false := decide_eq_false (by omega)
  have q2 : decide (8 * a + 8 ≤ bh) = false := decide_eq_false (by omega)
  have HB4 := Aside0.mk (show bh ≠ -1 ∧ 0 ≤ bh ∧ (G7 s l).on bh.toNat = true from ⟨hb1, by omega, hb4⟩)
  clear hfr hb1 hb2 hb3 hb4
  have d0 : decide (a < 0) = false := decide_eq_false (by omega)
  have d1 : decide (30 < a) = false := decide_eq_false (by omega)
  have d2 : decide ((nOf s : Int) < 8 * (a + 1)) = false := decide_eq_false (by omega)
  have h0 : 0 ≤ a := by omega
  have HW := Aside0.mk (And.intro (show winB (nOf s) (sg : Int) 1 = true from decide_eq_true (by omega)) (And.intro ha.symm hw8))
  clear ha hw8
  have HT := Aside0.mk hT
  have HS := Aside0.mk ((Sep.nil w).new_blk #[.int .i64 s, .slice A l.length c] 24)
  have C := Aside0.mk (made_any (c := c) (Kd.C_below hr HS.out.below) hl hs)
  have c0 : (_ : Option Value) = some (.int .i64 s) := (blk_cell (HS.out.blk 0 rfl) 0).trans rfl
  have c1 : (_ : Option Value) = some (.slice A l.length c) := (blk_cell (HS.out.blk 0 rfl) 1).trans rfl
  have hn := (nOf_le s).2.1
  have hlg := G7_len s l
  have hrise := G7_rise s l
  generalize G7 s l = g at *
  generalize nOf s = n at *
  have HN := Aside0.mk (And.intro hn (And.intro hlg hrise))
  clear hT hr hl hs hlg hrise
  go_enter Tryd.func12, Tryd.ntmps12
  go_wp2_with fail
  refine C.out.mono ?_
  clear C c0 c1
  rintro e w1 ⟨p, sb, ob, wb, r, lb, rfl, hs1⟩
  have HS : Aside0 (Sep w w1 [S1.Arr p sb ob wb n g]) := ⟨(HS.out.append hs1).sub (by
    show List.Sublist [S1.Arr p sb ob wb n g] [_, S1.Arr p sb ob wb n g, _]
    exact .cons _ (.cons_cons _ (.cons _ .slnil)))⟩
  clear hs1
  have C := Aside0.mk (sclone_any (HS.out.arr 0 rfl))
  go_wp2_with fail
  refine C.out.mono ?_
  clear C
  rintro e w2 ⟨q, qs, qo, qw, g2, rfl, hs1, hsm⟩
  have HS : Aside0 (Sep w w2 [S1.Arr p sb ob wb n g, S1.Arr q qs qo qw n g2]) := ⟨HS.out.append hs1⟩
  have HM := Aside0.mk hsm
  clear hs1 hsm
  have C := open_any (st := ()) (T := T0) (tell_no w n g []) HS.out (Nat.le_of_eq HN.out.2.1.symm) HW.out.1 bh
  obtain ⟨k, hk⟩ := openR_ok (n := n) (sg := sg) (bh := bh) (g := g) (Nat.le_of_eq HN.out.2.1.symm) HW.out.2.2 (by rw [HW.out.2.1]; exact HB.out) HN.out.2.2 HA.out
  generalize openR n sg bh g = E at C hk
  obtain ⟨kk, ee, Eg, ms⟩ := E
  obtain rfl : kk = (k : Int) := hk.ek
  obtain rfl : ee = 0 := hk.ee
  dsimp only at C
  have HK := Aside0.mk hk
  clear hk
  have hf : (((cntF g.on (8 * sg + 8) - cntF g.on (8 * sg) : Nat) : Int) == 8) = false := beq_eq_false_iff_ne.2 (fun e => by
    obtain ⟨i, i1, i2, i3⟩ := HA.out
    have := (cnt_all (f := g.on) (a := 8 * sg) 8)
    rw [this.2.1 (by omega) i i1 i2] at i3
    cases i3)
  rw [HW.out.2.1] at C
  have C := Aside0.mk C
  go_wp2_with fail
  refine C.out.mono ?_
  clear C
  rintro e w3 ⟨rfl, _, hs1⟩
  have HS : Aside0 (Sep w w3 [S1.Arr p sb ob wb n Eg, S1.Arr q qs qo qw n g2]) := ⟨hs1⟩
  clear hs1
  obtain ⟨vs, hs⟩ := HS.out.arr 0 rfl
  have C := Aside0.mk (cap_any hs)
  clear hs vs
  go_wp2_with fail
  refine C.out.mono ?_
  clear C
  rintro e w4 ⟨rfl, rfl⟩
  have C := scount_in (HS.out.arr 1 rfl).choose_spec (a := 8 * sg) (b := 8 * sg + 8) (by omega) HW.out.2.2
  rw [show ((8 * sg : Nat) : Int) = 8 * a by have := HW.out.2.1; omega, show ((8 * sg + 8 : Nat) : Int) = 8 * a + 8 by have := HW.out.2.1; omega, HM.out.on] at C
  generalize ((cntF g.on (8 * sg + 8) - cntF g.on (8 * sg) : Nat) : Int) = full at C hf
  have C := Aside0.mk C
  go_wp2_with fail
  refine C.out.mono ?_
  clear C
  rintro e w5 ⟨rfl, hd⟩
  replace HS := Aside0.mk (HS.out.step hd.below)
  clear hd
  have C := at_gap (HS.out.arr 1 rfl) bh
  rw [show atV n g2 bh = atV n g bh from same_atV HM.out bh, show atB n g2 bh = atB n g bh from same_atB HM.out bh] at C
  obtain ⟨y0, hy⟩ : ∃ y, atV n g bh = y := ⟨_, rfl⟩
  rw [hy] at C
  have hon : atB n g bh = true := by
    unfold atB
    rw [HB4.out.2.2, Bool.and_true]
    have h8 := HW.out.2
    have h9 := HB4.out.2.1
    have h10 := of_decide_eq_false q1
    have h11 := of_decide_eq_false q2
    exact decide_eq_true (by omega)
  rw [hon] at C
  clear hon
  have C := Aside0.mk C
  go_wp2_with fail
  refine C.out.mono ?_
  clear C
  rintro e w6 ⟨rfl, rfl⟩
  have HL : Aside0 (∀ i : Int, 8 * a ≤ i → i < 8 * a + 8 → atB n Eg i = true → (i < (k : Int) ↔ bh ≠ -1 ∧ atV n Eg i ≤ y0)) := ⟨fun i i1 i2 i3 => by
    have h := opened_order HK.out HW.out.2.2 (by rw [HW.out.2.1]; exact HB.out) (by rw [HW.out.2.1]; exact i1) (by rw [HW.out.2.1]; exact i2) i3
    rw [hy] at h
    exact h⟩
  clear hy
  have C := at_off (HS.out.arr 0 rfl).choose_spec (i := (k : Int)) (.inr (.inr (by rw [Int.toNat_natCast]; exact HK.out.free)))
  have C := Aside0.mk C
  go_wp2_with fail
  refine C.out.mono ?_
  clear C
  rintro e w7 ⟨rfl, rfl⟩
  have k1 : decide ((k : Int) < 8 * a) = false := decide_eq_false (by have := HK.out.lo; have := HW.out.2.1; omega)
  have k2 : decide (8 * a + 8 ≤ (k : Int)) = false := decide_eq_false (by have := HK.out.hi; have := HW.out.2.1; omega)
  obtain ⟨m, hm⟩ : ∃ m, cntF g.on n = m := ⟨_, rfl⟩
  obtain ⟨m2, hm2⟩ : ∃ m2, cntF (Eg).on n = m2 := ⟨_, rfl⟩
  have hml : (vals (ons g.on g.xs n)).length ≤ 1000000 := by have := cntF_le g.on n; rw [vals, List.length_map, ons_length]; have := HN.out.1; omega
  have HML := Aside0.mk hml
  clear hml
  obtain ⟨vs, hsl⟩ := HS.out.arr 0 rfl
  have C := items_any hsl (Kd.C_below HT.out HS.out.below)
  rw [show vals (ons Eg.on Eg.xs n) = vals (ons g.on g.xs n) from HK.out.items, hm2] at C
  have C := Aside0.mk C
  clear hsl vs
  go_wp2_with fail
  refine C.out.mono ?_
  clear C
  rintro e wr1 ⟨Awr1, cwr1, rfl, g1wr1, g2wr1, _, hb⟩
  replace HS := Aside0.mk (HS.out.step hb)
  have HR1 := Aside0.mk (And.intro g1wr1 g2wr1)
  clear g1wr1 g2wr1 hb
  obtain ⟨vs, hsl⟩ := HS.out.arr 1 rfl
  have C := items_any hsl (Kd.C_below HT.out HS.out.below)
  rw [HM.out.ons, HM.out.on, hm] at C
  have C := Aside0.mk C
  clear hsl vs
  go_wp2_with fail
  refine C.out.mono ?_
  clear C
  rintro e wr2 ⟨Awr2, cwr2, rfl, g1wr2, g2wr2, _, hb⟩
  replace HS := Aside0.mk (HS.out.step hb)
  have C := ints_any (Kd.C_below HR1.out.2 hb) HR1.out.1 g2wr2 g1wr2 HML.out
  rw [decide_eq_true rfl] at C
  have C := Aside0.mk C
  clear g1wr2 g2wr2 hb hm hm2
  go_wp2_with fail
  refine C.out.mono ?_
  clear C
  rintro e wr3 ⟨rfl, hd⟩
  replace HS := Aside0.mk (HS.out.step hd.below)
  clear hd
  clear k1 k2 hf
  go_wp2
  go_loopg [19] 9 (fun kq v19 W => ∃ i : Int, v19 = .int .i64 i ∧ 8 * a ≤ i ∧ i ≤ 8 * a + 8 ∧ Aside0 ((8 * a + 9 - i).toNat ≤ kq) ∧ wr3 = W)
  case atStart => exact ⟨8 * a, rfl, by omega, by omega, ⟨by omega⟩, rfl⟩
  case round =>
    obtain ⟨i, rfl, hi1, hi2, HQ, rfl⟩ := hrel
    by_cases hlt : i < 8 * a + 8
    · have hd1 : decide (i < 8 * a + 8) = true := decide_eq_true hlt
      have C := at_gap (HS.out.arr 0 rfl) i
      have HO := HL.out i hi1 hlt
      generalize atV n Eg i = z at C HO
      have HC := Aside0.mk hlt
      cases hb : atB n Eg i with
      | false =>
        rw [hb] at C
        clear HO hb hlt
        have C := Aside0.mk C
        go_wp2_with fail
        refine C.out.mono ?_
        clear C
        rintro e w8 ⟨rfl, rfl⟩
        go_wp2
        go_roundg ((8 * a + 9 - (i + 1)).toNat)
        case measure => have := HQ.out; have := HC.out; omega
        case rel => exact ⟨i + 1, by go_num, by omega, by have := HC.out; omega, ⟨Nat.le_refl _⟩, rfl⟩
      | true =>
        rw [hb] at C
        have HO := Aside0.mk (HO hb)
        clear hb hlt
        by_cases hik : i < (k : Int)
        · have e1 : decide (i < (k : Int)) = true := decide_eq_true hik
          have e2 : decide (z ≤ y0) = true := decide_eq_true (HO.out.1 hik).2
          clear hik
          have C := Aside0.mk C
          go_wp2_with fail
          refine C.out.mono ?_
          clear C
          rintro e w8 ⟨rfl, rfl⟩
          go_wp2
          go_roundg ((8 * a + 9 - (i + 1)).toNat)
          case measure => have := HQ.out; have := HC.out; omega
          case rel => exact ⟨i + 1, by go_num, by omega, by have := HC.out; omega, ⟨Nat.le_refl _⟩, rfl⟩
        · have e1 : decide (i < (k : Int)) = false := decide_eq_false hik
          have e2 : decide (z ≤ y0) = false := decide_eq_false (fun h => hik (HO.out.2 ⟨HB4.out.1, h⟩))
          clear hik
          have C := Aside0.mk C
          go_wp2_with fail
          refine C.out.mono ?_
          clear C
          rintro e w8 ⟨rfl, rfl⟩
          go_wp2
          go_roundg ((8 * a + 9 - (i + 1)).toNat)
          case measure => have := HQ.out; have := HC.out; omega
          case rel => exact ⟨i + 1, by go_num, by omega, by have := HC.out; omega, ⟨Nat.le_refl _⟩, rfl⟩
    · obtain rfl : i = 8 * a + 8 := by omega
      clear hlt
      go_wp2
      go_loopg [22] (n + 1) (fun kq v22 W => ∃ i : Nat, v22 = .int .i64 (i : Int) ∧ i ≤ n ∧ Aside0 (n + 1 - i ≤ kq) ∧ wr3 = W)
      case atStart => exact ⟨0, rfl, by omega, ⟨by omega⟩, rfl⟩
      case round =>
        obtain ⟨i, rfl, hi, HQ, rfl⟩ := hrel
        obtain ⟨vs, hs⟩ := HS.out.arr 0 rfl
        have C := Aside0.mk (cap_any hs)
        clear hs vs
        go_wp2_with fail
        refine C.out.mono ?_
        clear C
        rintro e w4 ⟨rfl, rfl⟩
        by_cases hlt : i < n
        · have HC := Aside0.mk hlt
          have hi5 : (i : Int) ≤ 200 := by have := HN.out.1; omega
          have hd2 : decide (i < n) = true := decide_eq_true hlt
          by_cases i1 : (i : Int) < 8 * a
          · have e1 : decide ((i : Int) < 8 * a) = true := decide_eq_true i1
            obtain ⟨r1, r2⟩ := opened_rest HK.out hlt (by have := HW.out.2.1; omega)
            have r1 : atB n Eg (i : Int) = atB n g (i : Int) := r1
            have r2 : atV n Eg (i : Int) = atV n g (i : Int) := r2
            obtain ⟨x, hx⟩ : ∃ x, atV n g (i : Int) = x := ⟨_, rfl⟩
            have x1 : (x != x) = false := by simp
            clear hlt
            cases hb : atB n g (i : Int) with
            | false =>
              have C := at_gap (HS.out.arr 0 rfl) (i : Int)
              rw [r1, r2, hx, hb] at C
              have C := Aside0.mk C
              go_wp2_with fail
              refine C.out.mono ?_
              clear C
              rintro e w9 ⟨rfl, rfl⟩
              have C := at_gap (HS.out.arr 1 rfl) (i : Int)
              rw [same_atV HM.out, same_atB HM.out] at C
              rw [hx, hb] at C
              have C := Aside0.mk C
              go_wp2_with fail
              refine C.out.mono ?_
              clear C
              rintro e w9 ⟨rfl, rfl⟩
              go_wp2
              go_roundg (n - i)
              case measure => have := HQ.out; have := HC.out; omega
              case rel => exact ⟨i + 1, by go_num, by have := HC.out; omega, ⟨by omega⟩, rfl⟩
            | true =>
              have C := at_gap (HS.out.arr 0 rfl) (i : Int)
              rw [r1, r2, hx, hb] at C
              have C := Aside0.mk C
              go_wp2_with fail
              refine C.out.mono ?_
              clear C
              rintro e w9 ⟨rfl, rfl⟩
              have C := at_gap (HS.out.arr 1 rfl) (i : Int)
              rw [same_atV HM.out, same_atB HM.out] at C
              rw [hx, hb] at C
              have C := Aside0.mk C
              go_wp2_with fail
              refine C.out.mono ?_
              clear C
              rintro e w9 ⟨rfl, rfl⟩
              go_wp2
              go_roundg (n - i)
              case measure => have := HQ.out; have := HC.out; omega
              case rel => exact ⟨i + 1, by go_num, by have := HC.out; omega, ⟨by omega⟩, rfl⟩
          · have e1 : decide ((i : Int) < 8 * a) = false := decide_eq_false i1
            by_cases i2 : 8 * a + 8 ≤ (i : Int)
            · have e2 : decide (8 * a + 8 ≤ (i : Int)) = true := decide_eq_true i2
              obtain ⟨r1, r2⟩ := opened_rest HK.out hlt (by have := HW.out.2.1; omega)
              have r1 : atB n Eg (i : Int) = atB n g (i : Int) := r1
              have r2 : atV n Eg (i : Int) = atV n g (i : Int) := r2
              obtain ⟨x, hx⟩ : ∃ x, atV n g (i : Int) = x := ⟨_, rfl⟩
              have x1 : (x != x) = false := by simp
              clear hlt
              cases hb : atB n g (i : Int) with
              | false =>
                have C := at_gap (HS.out.arr 0 rfl) (i : Int)
                rw [r1, r2, hx, hb] at C
                have C := Aside0.mk C
                go_wp2_with fail
                refine C.out.mono ?_
                clear C
                rintro e w9 ⟨rfl, rfl⟩
                have C := at_gap (HS.out.arr 1 rfl) (i : Int)
                rw [same_atV HM.out, same_atB HM.out] at C
                rw [hx, hb] at C
                have C := Aside0.mk C
                go_wp2_with fail
                refine C.out.mono ?_
                clear C
                rintro e w9 ⟨rfl, rfl⟩
                go_wp2
                go_roundg (n - i)
                case measure => have := HQ.out; have := HC.out; omega
                case rel => exact ⟨i + 1, by go_num, by have := HC.out; omega, ⟨by omega⟩, rfl⟩
              | true =>
                have C := at_gap (HS.out.arr 0 rfl) (i : Int)
                rw [r1, r2, hx, hb] at C
                have C := Aside0.mk C
                go_wp2_with fail
                refine C.out.mono ?_
                clear C
                rintro e w9 ⟨rfl, rfl⟩
                have C := at_gap (HS.out.arr 1 rfl) (i : Int)
                rw [same_atV HM.out, same_atB HM.out] at C
                rw [hx, hb] at C
                have C := Aside0.mk C
                go_wp2_with fail
                refine C.out.mono ?_
                clear C
                rintro e w9 ⟨rfl, rfl⟩
                go_wp2
                go_roundg (n - i)
                case measure => have := HQ.out; have := HC.out; omega
                case rel => exact ⟨i + 1, by go_num, by have := HC.out; omega, ⟨by omega⟩, rfl⟩
            · have e2 : decide (8 * a + 8 ≤ (i : Int)) = false := decide_eq_false i2
              clear hlt
              have C := at_gap (HS.out.arr 0 rfl) (i : Int)
              generalize atV n Eg (i : Int) = x1 at C
              have C := Aside0.mk C
              go_wp2_with fail
              refine C.out.mono ?_
              clear C
              rintro e w9 ⟨rfl, rfl⟩
              have C := at_gap (HS.out.arr 1 rfl) (i : Int)
              rw [same_atV HM.out, same_atB HM.out] at C
              generalize atB n Eg (i : Int) = b1 at C
              have C := Aside0.mk C
              go_wp2_with fail
              refine C.out.mono ?_
              clear C
              rintro e w9 ⟨rfl, rfl⟩
              go_wp2
              go_roundg (n - i)
              case measure => have := HQ.out; have := HC.out; omega
              case rel => exact ⟨i + 1, by go_num, by have := HC.out; omega, ⟨by omega⟩, rfl⟩
        · obtain rfl : i = n := by omega
          clear hlt
          have C := Aside0.mk (awake_any _ (Kd.C_below HT.out HS.out.below))
          go_wp2_with fail
          refine C.out.mono ?_
          clear C
          rintro e w30 ⟨rfl, hb⟩
          replace HS := Aside0.mk (HS.out.step hb)
          clear hb
          go_wp2
          (try rw [Exit.noGoto_ret])
          go_ret
          exact ⟨rfl, HS.out.below⟩
end
theorem law (s : Int) (ws : (Lit.int .i64 s).wf = true) (A : Option Addr) (c : Nat) (l : List Int) {W0 : World} (g : Kd.C (Kd.int .i64) W0 A l.length l) (e : l.length ≤ c) (wl : ∀ x ∈ l, (Lit.int .i64 x).wf = true) (hl : l.length ≤ 9223372036854775807) (a : Int) (wa : (Lit.int .i64 a).wf = true) (k : Int) (wk : (Lit.int .i64 k).wf = true) (W : World) (hT : Tb W) (hW : W = W0 := by rfl) :
    Calls Tryd.prog 12 #[.agg #[.int .i64 s, .slice A l.length c], .int .i64 a, .int .i64 k] W fun e w' => e = .returned (.bool true) ∧ Below W.heap.size W w' := by
  subst hW
  have hs := wf_le ws
  by_cases h0 : a < 0 ∨ 30 < a
  · exact law_out hT g hl hs k h0
  · cases hw : winB (nOf s) a 1 with
    | false => exact law_no hT g hl hs k (by omega) (by omega) hw
    | true =>
      obtain ⟨sg, m, rfl, hm, h1, h2, h3⟩ := win_nat hw
      have hw8 : 8 * sg + 8 ≤ nOf s := by omega
      by_cases hbad : k ≠ -1 ∧ (k < 8 * (sg : Int) ∨ 8 * (sg : Int) + 8 ≤ k)
      · exact law_arg hT g hl hs rfl k (by omega) hw8 hbad
      · by_cases hno : k ≠ -1 ∧ (G7 s l).on k.toNat = false
        · exact law_none hT g hl hs rfl k (by omega) hw8 hno.1 (by omega) (by omega) hno.2
        · have hb : k = -1 ∨ (8 * (sg : Int) ≤ k ∧ k < 8 * (sg : Int) + 8 ∧ (G7 s l).on k.toNat = true) := by
            by_cases hk : k = -1
            · exact .inl hk
            · refine .inr ⟨by omega, by omega, ?_⟩
              cases hb : (G7 s l).on k.toNat with
              | true => rfl
              | false => exact absurd ⟨hk, hb⟩ hno
          by_cases hall : ∀ i, 8 * sg ≤ i → i < 8 * sg + 8 → (G7 s l).on i = true
          · exact law_full hT g hl hs rfl k (by omega) hw8 hb hall
          · have hfr : ∃ i, 8 * sg ≤ i ∧ i < 8 * sg + 8 ∧ (G7 s l).on i = false := by
              refine Classical.byContradiction fun hn => hall fun i i1 i2 => ?_
              cases hb : (G7 s l).on i with
              | true => rfl
              | false => exact absurd ⟨i, i1, i2, hb⟩ hn
            rcases hb with rfl | ⟨b1, b2, b3⟩
            · exact law_ok1 hT g hl hs rfl (by omega) hw8 hfr
            · exact law_ok2 hT g hl hs rfl k (by omega) hw8 (by omega) b1 b2 b3 hfr
end Go.Proofs.YtofkkdjbilklcaaDoor.ZY
