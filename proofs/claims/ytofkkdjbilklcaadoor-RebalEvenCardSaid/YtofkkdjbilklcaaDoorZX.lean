/- The law RebalEven walked: it returns true, whatever the array and the window. -/
import Derived.Test.YtofkkdjbilklcaaDoorZA
import Derived.Test.YtofkkdjbilklcaaDoorZE
import Derived.BigQuiet
namespace Go.Proofs.YtofkkdjbilklcaaDoor.ZX
open Go.RowKit Go.Shelf Go.Proofs.YtofkkdjbilklcaaDoorW.PrintWords Go.Proofs.YtofkkdjbilklcaaDoorW.PrintLast Go.Proofs.YtofkkdjbilklcaaDoorW.PrintMore G1 G0 Q1 G2 G3 G4 G5 G6 G7 G8 G9 G10 S1 Y1 Y3 Y2 Z0 Z1 Z2 Z3 Z4 ZR ZM ZP CL ZQ ZA ZE SN
set_option linter.unusedVariables false
set_option linter.unusedSimpArgs false
abbrev T0 : Unit → List Mv → List Ob := fun _ _ => []
theorem perm4 (a b c d : Ob) : [a, b, c, d].Perm [c, a, b, d] := List.Perm.map (fun i => [a, b, c, d].getD i a) (show [0, 1, 2, 3].Perm [2, 0, 1, 3] by decide)
section
variable {w : World} {A : Option Addr} {c : Nat} {l : List Int} {s : Int}
set_option maxRecDepth 100000 in
set_option maxHeartbeats 2000000 in
theorem law_no (hT : Tb w) (hr : Kd.C (Kd.int .i64) w A l.length l) (hl : l.length ≤ 9223372036854775807) (hs : -9223372036854775808 ≤ s ∧ s ≤ 9223372036854775807) {a b : Int} (hw : winB (nOf s) a b = false) :
    Calls Tryd.prog 13 #[.agg #[.int .i64 s, .slice A l.length c], .int .i64 a, .int .i64 b] w fun e w' => e = .returned (.bool true) ∧ Below w.heap.size w w' := by
  have HW := Aside0.mk hw
  clear hw
  have HT := Aside0.mk hT
  have HS := Aside0.mk ((Sep.nil w).new_blk #[.int .i64 s, .slice A l.length c] 24)
  have C := Aside0.mk (made_any (c := c) (Kd.C_below hr HS.out.below) hl hs)
  have c0 : (_ : Option Value) = some (.int .i64 s) := (blk_cell (HS.out.blk 0 rfl) 0).trans rfl
  have c1 : (_ : Option Value) = some (.slice A l.length c) := (blk_cell (HS.out.blk 0 rfl) 1).trans rfl
  have hn := (nOf_le s).2.1
  have hlg := G7_len s l
  generalize G7 s l = g at *
  generalize nOf s = n at *
  have HN := Aside0.mk (And.intro hn hlg)
  clear hT hr hl hs hlg
  go_enter Tryd.func13, Tryd.ntmps13
  go_wp2_with fail
  refine C.out.mono ?_
  clear C c0 c1
  rintro e w1 ⟨p, sb, ob, wb, r, lb, rfl, hs1⟩
  have HS : Aside0 (Sep w w1 [S1.Arr p sb ob wb n g]) := ⟨(HS.out.append hs1).sub (by
    show List.Sublist [S1.Arr p sb ob wb n g] [_, S1.Arr p sb ob wb n g, _]
    exact .cons _ (.cons_cons _ (.cons _ .slnil)))⟩
  clear hs1
  have C := Aside0.mk (sclone_any (HS.out.arr 0 rfl))
  go_wp2_with fail
  refine C.out.mono ?_
  clear C
  rintro e w2 ⟨q, qs, qo, qw, g2, rfl, hs1, hsm⟩
  replace HS : Aside0 (Sep w w2 [S1.Arr p sb ob wb n g, S1.Arr q qs qo qw n g2]) := ⟨HS.out.append hs1⟩
  have HM := Aside0.mk hsm
  clear hs1 hsm
  have C := Aside0.mk (sclone_any (HS.out.arr 0 rfl))
  go_wp2_with fail
  refine C.out.mono ?_
  clear C
  rintro e w3 ⟨u, us, uo, uw, g3, rfl, hs1, hsm⟩
  replace HS : Aside0 (Sep w w3 [S1.Arr p sb ob wb n g, S1.Arr q qs qo qw n g2, S1.Arr u us uo uw n g3]) := ⟨HS.out.append hs1⟩
  have HM3 := Aside0.mk hsm
  clear hs1 hsm
  have C := Aside0.mk (even_no (HS.out.arr 0 rfl) HW.out .nilFunc (.inl rfl))
  go_wp2_with fail
  refine C.out.mono ?_
  clear C
  rintro e w4 ⟨rfl, rfl⟩
  have hml : (keys (ons g.on g.xs n)).length ≤ 1000000 := by have := cntF_le g.on n; rw [keys, List.length_map, ons_length]; have := HN.out.1; omega
  have HML := Aside0.mk hml
  obtain ⟨m, hm⟩ : ∃ m, cntF g.on n = m := ⟨_, rfl⟩
  clear hml
  obtain ⟨vs, hsl⟩ := HS.out.arr 0 rfl
  have C := places_any hsl (Kd.C_below HT.out HS.out.below)
  rw [hm] at C
  have C := Aside0.mk C
  clear hsl vs
  go_wp2_with fail
  refine C.out.mono ?_
  clear C
  rintro e xa ⟨Axa, cxa, rfl, g1xa, g2xa, g3xa, hb⟩
  replace HS := Aside0.mk (HS.out.step hb)
  have HR1 := Aside0.mk (And.intro g1xa g2xa)
  clear g1xa g2xa g3xa hb
  obtain ⟨vs, hsl⟩ := HS.out.arr 1 rfl
  have C := places_any hsl (Kd.C_below HT.out HS.out.below)
  rw [HM.out.ons, HM.out.on, hm] at C
  have C := Aside0.mk C
  clear hsl vs
  go_wp2_with fail
  refine C.out.mono ?_
  clear C
  rintro e xb ⟨Axb, cxb, rfl, g1xb, g2xb, g3xb, hb⟩
  replace HS := Aside0.mk (HS.out.step hb)
  have C := ints_any (Kd.C_below HR1.out.2 hb) HR1.out.1 g2xb g1xb HML.out
  rw [decide_eq_true rfl] at C
  have C := Aside0.mk C
  clear g1xb g2xb g3xb hb HR1
  go_wp2_with fail
  refine C.out.mono ?_
  clear C
  rintro e xc ⟨rfl, hd⟩
  replace HS := Aside0.mk (HS.out.step hd.below)
  clear hd
  clear hm
  have C := Aside0.mk (awake_any _ (Kd.C_below HT.out HS.out.below))
  go_wp2_with fail
  refine C.out.mono ?_
  clear C
  rintro e w30 ⟨rfl, hb⟩
  replace HS := Aside0.mk (HS.out.step hb)
  clear hb
  go_wp2
  (try rw [Exit.noGoto_ret])
  go_ret
  exact ⟨rfl, HS.out.below⟩
set_option maxRecDepth 100000 in
set_option maxHeartbeats 8000000 in
theorem law_yes (hT : Tb w) (hr : Kd.C (Kd.int .i64) w A l.length l) (hl : l.length ≤ 9223372036854775807) (hs : -9223372036854775808 ≤ s ∧ s ≤ 9223372036854775807) {a b : Int} {f k : Nat} (ha : a = (f : Int)) (hb : b = (k : Int)) (k1 : 1 ≤ k) (k2 : 8 * f + 8 * k ≤ nOf s) (k3 : f + k ≤ 512) :
    Calls Tryd.prog 13 #[.agg #[.int .i64 s, .slice A l.length c], .int .i64 a, .int .i64 b] w fun e w' => e = .returned (.bool true) ∧ Below w.heap.size w w' := by
  have hn0 := (nOf_le s).2.1
  have a0 : 0 ≤ a := by omega
  have a1 : a ≤ 25 := by omega
  have b0 : 0 ≤ b := by omega
  have b1 : b ≤ 25 := by omega
  have HW := Aside0.mk (And.intro ha (And.intro hb (And.intro k1 (And.intro k2 k3))))
  clear ha hb k1 k2 k3 hn0
  have HT := Aside0.mk hT
  have HS := Aside0.mk ((Sep.nil w).new_blk #[.int .i64 s, .slice A l.length c] 24)
  have C := Aside0.mk (made_any (c := c) (Kd.C_below hr HS.out.below) hl hs)
  have c0 : (_ : Option Value) = some (.int .i64 s) := (blk_cell (HS.out.blk 0 rfl) 0).trans rfl
  have c1 : (_ : Option Value) = some (.slice A l.length c) := (blk_cell (HS.out.blk 0 rfl) 1).trans rfl
  have hn := (nOf_le s).2.1
  have hlg := G7_len s l
  generalize G7 s l = g at *
  generalize nOf s = n at *
  have HN := Aside0.mk (And.intro hn hlg)
  clear hT hr hl hs hlg
  go_enter Tryd.func13, Tryd.ntmps13
  go_wp2_with fail
  refine C.out.mono ?_
  clear C c0 c1
  rintro e w1 ⟨p, sb, ob, wb, r, lb, rfl, hs1⟩
  have HS : Aside0 (Sep w w1 [S1.Arr p sb ob wb n g]) := ⟨(HS.out.append hs1).sub (by
    show List.Sublist [S1.Arr p sb ob wb n g] [_, S1.Arr p sb ob wb n g, _]
    exact .cons _ (.cons_cons _ (.cons _ .slnil)))⟩
  clear hs1
  have C := Aside0.mk (sclone_any (HS.out.arr 0 rfl))
  go_wp2_with fail
  refine C.out.mono ?_
  clear C
  rintro e w2 ⟨q, qs, qo, qw, g2, rfl, hs1, hsm⟩
  replace HS : Aside0 (Sep w w2 [S1.Arr p sb ob wb n g, S1.Arr q qs qo qw n g2]) := ⟨HS.out.append hs1⟩
  have HM := Aside0.mk hsm
  clear hs1 hsm
  have C := Aside0.mk (sclone_any (HS.out.arr 0 rfl))
  go_wp2_with fail
  refine C.out.mono ?_
  clear C
  rintro e w3 ⟨u, us, uo, uw, g3, rfl, hs1, hsm⟩
  replace HS : Aside0 (Sep w w3 [S1.Arr p sb ob wb n g, S1.Arr q qs qo qw n g2, S1.Arr u us uo uw n g3]) := ⟨HS.out.append hs1⟩
  have HM3 := Aside0.mk hsm
  clear hs1 hsm
  have C := even_any (s := ()) (T := T0) (f := f) (k := k) (tell_no w n g []) HT.out HS.out (Nat.le_of_eq HN.out.2.symm) HW.out.2.2.2.1 HW.out.2.2.2.2 HW.out.2.2.1
  rw [← HW.out.1, ← HW.out.2.1] at C
  have hF := evenF (f := f) (k := k) (Nat.le_of_eq HN.out.2.symm) HW.out.2.2.2.1 HW.out.2.2.1
  have hT2 := evenT (f := f) (k := k) (Nat.le_of_eq HN.out.2.symm) HM3.out HW.out.2.2.2.1 HW.out.2.2.1
  obtain ⟨ct, hct⟩ : ∃ ct, cntF g.on (8 * f + 8 * k) - cntF g.on (8 * f) = ct := ⟨_, rfl⟩
  rw [hct] at hF
  generalize hE : evenR n f k g = E at C hF hT2
  obtain ⟨mi, hmi⟩ : ∃ mi : Int, (E.ms.length : Int) = mi := ⟨_, rfl⟩
  rw [hmi] at C
  have HF := Aside0.mk hF
  have HG := Aside0.mk hT2.again
  have HL := Aside0.mk hT2.llen
  have HP := Aside0.mk hT2.packed
  have HI := Aside0.mk hT2.items
  have C := Aside0.mk C
  clear hF hT2
  rw [hE] at HG HP
  go_wp2_with fail
  refine C.out.mono ?_
  clear C hE
  rintro e w4 ⟨rfl, _, hs1⟩
  replace HS : Aside0 (Sep w w4 [S1.Arr p sb ob wb n E.g, S1.Arr q qs qo qw n g2, S1.Arr u us uo uw n g3]) := ⟨hs1⟩
  clear hs1
  have e1 : ((8 * f : Nat) : Int) = 8 * a := by have := HW.out.1; omega
  have e2 : ((8 * f + 8 * k : Nat) : Int) = 8 * (a + b) := by have := HW.out.1; have := HW.out.2.1; omega
  obtain ⟨ci, hci⟩ : ∃ ci : Int, (ct : Int) = ci := ⟨_, rfl⟩
  have C := scount_in (HS.out.arr 0 rfl).choose_spec (a := 8 * f) (b := 8 * f + 8 * k) (by omega) HW.out.2.2.2.1
  rw [HF.out.cnt, e1, e2, hci] at C
  have C := Aside0.mk C
  go_wp2_with fail
  refine C.out.mono ?_
  clear C
  rintro e w5 ⟨rfl, hd⟩
  replace HS := Aside0.mk (HS.out.step hd.below)
  clear hd
  have C := scount_in (HS.out.arr 1 rfl).choose_spec (a := 8 * f) (b := 8 * f + 8 * k) (by omega) HW.out.2.2.2.1
  rw [HM.out.on, hct, e1, e2, hci] at C
  have C := Aside0.mk C
  go_wp2_with fail
  refine C.out.mono ?_
  clear C e1 e2 hct
  rintro e w6 ⟨rfl, hd⟩
  replace HS := Aside0.mk (HS.out.step hd.below)
  clear hd
  have C := spl_any (n := ct) (s := k) (f := f) HW.out.2.2.1 HF.out.most HW.out.2.2.2.2 w6
  rw [← HW.out.1, ← HW.out.2.1, hci] at C
  have C := Aside0.mk C
  go_wp2_with fail
  refine C.out.mono ?_
  clear C
  rintro e w7 ⟨A4, c4, rfl, g1, g2', g3', hb⟩
  have hpl : (plK ct k f k).length = ct := pl_len f HW.out.2.2.1
  rw [show ct = (plK ct k f k).length from hpl.symm] at g3'
  replace HS := HS.out.new_own hb (by rw [hpl] at g3' ⊢; exact g3')
  have HS := Aside0.mk HS
  clear g1 g2' g3' hb hpl
  have z1 : (ci != ci) = false := by simp
  have z2 : decide (mi < 0) = false := decide_eq_false (by omega)
  have z3 : decide (2 * ci < mi) = false := decide_eq_false (by have := HF.out.few; omega)
  have z4 : 0 ≤ ci := by omega
  have z5 : ci ≤ 400 := by have := HF.out.most; have := HW.out.2.2.2.1; have := HN.out.1; omega
  clear hci hmi
  have hml : (vals (ons g.on g.xs n)).length ≤ 1000000 := by have := cntF_le g.on n; rw [vals, List.length_map, ons_length]; have := HN.out.1; omega
  have HML := Aside0.mk hml
  clear hml
  obtain ⟨m0, hm0⟩ : ∃ m, cntF E.g.on n = m := ⟨_, rfl⟩
  obtain ⟨m1, hm1⟩ : ∃ m, cntF g.on n = m := ⟨_, rfl⟩
  obtain ⟨vs, hsl⟩ := HS.out.arr 0 rfl
  have C := items_any hsl (Kd.C_below HT.out HS.out.below)
  rw [HF.out.items, hm0] at C
  have C := Aside0.mk C
  clear hsl vs
  go_wp2_with fail
  refine C.out.mono ?_
  clear C
  rintro e ya ⟨Aya, cya, rfl, g1ya, g2ya, g3ya, hb⟩
  replace HS := Aside0.mk (HS.out.step hb)
  have HR1 := Aside0.mk (And.intro g1ya g2ya)
  clear g1ya g2ya g3ya hb
  obtain ⟨vs, hsl⟩ := HS.out.arr 1 rfl
  have C := items_any hsl (Kd.C_below HT.out HS.out.below)
  rw [HM.out.ons, HM.out.on, hm1] at C
  have C := Aside0.mk C
  clear hsl vs
  go_wp2_with fail
  refine C.out.mono ?_
  clear C
  rintro e yb ⟨Ayb, cyb, rfl, g1yb, g2yb, g3yb, hb⟩
  replace HS := Aside0.mk (HS.out.step hb)
  have C := ints_any (Kd.C_below HR1.out.2 hb) HR1.out.1 g2yb g1yb HML.out
  rw [decide_eq_true rfl] at C
  have C := Aside0.mk C
  clear g1yb g2yb g3yb hb HR1
  go_wp2_with fail
  refine C.out.mono ?_
  clear C
  rintro e yc ⟨rfl, hd⟩
  replace HS := Aside0.mk (HS.out.step hd.below)
  clear hd
  clear hm0 hm1 z1 z2 z3 z4 z5
  have lk : cntF E.g.on n = (keys (ons E.g.on E.g.xs n)).length := by rw [keys, List.length_map, ons_length]
  have lb : cntF g.on n = (keys (ons g.on g.xs n)).length := by rw [keys, List.length_map, ons_length]
  have HKL : Aside0 ((keys (ons E.g.on E.g.xs n)).length ≤ 200 ∧ (keys (ons g.on g.xs n)).length ≤ 200) := ⟨by
    rw [← lk, ← lb]
    have := HN.out.1
    exact ⟨Nat.le_trans (cntF_le _ _) this, Nat.le_trans (cntF_le _ _) this⟩⟩
  have hh := HF.out.here
  have ho := HF.out.outs
  rw [← HW.out.1, ← HW.out.2.1] at hh ho
  obtain ⟨vs, hsl⟩ := HS.out.arr 0 rfl
  have C := places_any hsl (Kd.C_below HT.out HS.out.below)
  rw [lk] at C
  have CB := fun (W : World) (hb : Below w.heap.size w W) (hI : Is W q qs qo qw n g2) => places_any hI.choose_spec (Kd.C_below HT.out hb)
  rw [HM.out.ons, HM.out.on, lb] at CB
  generalize hkk : keys (ons E.g.on E.g.xs n) = kk at C hh ho HG HP HKL
  generalize hkb : keys (ons g.on g.xs n) = kb at CB ho HKL
  have HH := Aside0.mk hh
  have HO := Aside0.mk ho
  have C := Aside0.mk C
  have CB := Aside0.mk CB
  clear hsl vs hh ho hkk hkb lk lb
  go_wp2_with fail
  refine C.out.mono ?_
  clear C
  rintro e w8 ⟨A1, k1, rfl, _, _, g3', hb⟩
  have HS : Aside0 (Sep w w8 [S1.Arr p sb ob wb n E.g, S1.Arr q qs qo qw n g2, S1.Arr u us uo uw n g3, S1.Own (.slice A4 ct c4) (plK ct k f k), S1.Own (.slice A1 kk.length k1) kk, S1.Own (.slice none 0 0) [], S1.Own (.slice none 0 0) []]) := ⟨((HS.out.new_own hb g3').push (Below.refl _ _) (S1.Own (.slice none 0 0) []) (own_nil _ _ _ _) (fun k hk => by simp [S1.Own, Value.ownBlock] at hk)).push (Below.refl _ _) (S1.Own (.slice none 0 0) []) (own_nil _ _ _ _) (fun k hk => by simp [S1.Own, Value.ownBlock] at hk)⟩
  clear g3' hb
  go_wp2
  go_loopg [21, 22, 24] (kk.length + 1) (fun kq v21 v22 v24 W => ∃ (i : Nat) (y1 y2 : Value), y1 = v21 ∧ y2 = v22 ∧ v24 = .int .i64 (i : Int) ∧ i ≤ kk.length ∧ Aside0 (kk.length + 1 - i ≤ kq) ∧ Aside0 (Sep w W [S1.Arr p sb ob wb n E.g, S1.Arr q qs qo qw n g2, S1.Arr u us uo uw n g3, S1.Own (.slice A4 ct c4) (plK ct k f k), S1.Own (.slice A1 kk.length k1) kk, S1.Own y1 ((kk.take i).filter (inB (8 * a) (8 * (a + b)))), S1.Own y2 ((kk.take i).filter (fun x => !inB (8 * a) (8 * (a + b)) x))]))
  case atStart => exact ⟨0, _, _, rfl, rfl, rfl, by omega, ⟨by omega⟩, HS⟩
  case round =>
    clear HS
    obtain ⟨i, y1, y2, rfl, rfl, rfl, hi, HQ, HS⟩ := hrel
    by_cases hlt : i < kk.length
    · have HC := Aside0.mk hlt
      have hi5 : (i : Int) ≤ 200 := by have := HKL.out.1; omega
      obtain ⟨ad, rfl⟩ : ∃ ad, A1 = some ad := by
        obtain ⟨A', c', e', _, h2⟩ := G9.own_C (HS.out.own 4 rfl)
        injection e' with e1 e2 e3
        subst e1
        obtain ⟨ad, e, hx⟩ := Kd.at_int h2 (i : Int) (by omega) (by omega)
        exact ⟨ad, e⟩
      have hx : wr.cell? (ad.add i) = some (.int .i64 (kk.getD i 0)) := by
        obtain ⟨A', c', e', _, h2⟩ := G9.own_C (HS.out.own 4 rfl)
        injection e' with e1 e2 e3
        subst e1
        obtain ⟨ad', e, hx⟩ := Kd.at_int h2 (i : Int) (by omega) (by omega)
        rw [Int.toNat_natCast, show rd kk (i : Int) = kk.getD i 0 from rfl] at hx
        cases e
        exact hx
      have HTF := Aside0.mk (fun p => take_filter (l := kk) (p := p) hlt)
      have HLN : Aside0 (∀ p : Int → Bool, ((kk.take i).filter p).length ≤ 1000000) := ⟨fun p => by have := List.length_filter_le p (kk.take i); rw [List.length_take] at this; have := HKL.out.1; omega⟩
      generalize kk.getD i 0 = x at hx HTF
      by_cases x1 : 8 * a ≤ x
      · have t1 : decide (8 * a ≤ x) = true := decide_eq_true x1
        by_cases x2 : x < 8 * (a + b)
        · have t2 : decide (x < 8 * (a + b)) = true := decide_eq_true x2
          have HB : Aside0 (inB (8 * a) (8 * (a + b)) x = true) := ⟨by unfold inB; rw [t1, t2]; rfl⟩
          clear x1 x2
          go_wp2_with ((with_reducible refine gate_builtin (b := .append) (xs := #[.tmp 158, .tmp 163]) rfl ?_); at_builtin; refine SN.sep_append rfl (.tmp 158) (.tmp 163) rfl HS.out 5 rfl x rfl rfl (HLN.out _) ?_; intro v1 w10 hs1)
          have HS1 := Aside0.mk hs1
          clear hs1
          go_wp2
          go_roundg (kk.length - i)
          case measure => have := HQ.out; have := HC.out; omega
          case rel => exact ⟨i + 1, _, _, rfl, rfl, by go_num, by have := HC.out; omega, ⟨by omega⟩, ⟨by rw [HTF.out, HTF.out, HB.out]; simpa using HS1.out⟩⟩
        · have t2 : decide (x < 8 * (a + b)) = false := decide_eq_false x2
          have HB : Aside0 (inB (8 * a) (8 * (a + b)) x = false) := ⟨by unfold inB; rw [t1, t2]; rfl⟩
          clear x1 x2
          go_wp2_with ((with_reducible refine gate_builtin (b := .append) (xs := #[.tmp 165, .tmp 170]) rfl ?_); at_builtin; refine SN.sep_append rfl (.tmp 165) (.tmp 170) rfl HS.out 6 rfl x rfl rfl (HLN.out _) ?_; intro v1 w10 hs1)
          have HS1 := Aside0.mk hs1
          clear hs1
          go_wp2
          go_roundg (kk.length - i)
          case measure => have := HQ.out; have := HC.out; omega
          case rel => exact ⟨i + 1, _, _, rfl, rfl, by go_num, by have := HC.out; omega, ⟨by omega⟩, ⟨by rw [HTF.out, HTF.out, HB.out]; simpa using HS1.out⟩⟩
      · have t1 : decide (8 * a ≤ x) = false := decide_eq_false x1
        have HB : Aside0 (inB (8 * a) (8 * (a + b)) x = false) := ⟨by unfold inB; rw [t1]; rfl⟩
        clear x1
        go_wp2_with ((with_reducible refine gate_builtin (b := .append) (xs := #[.tmp 165, .tmp 170]) rfl ?_); at_builtin; refine SN.sep_append rfl (.tmp 165) (.tmp 170) rfl HS.out 6 rfl x rfl rfl (HLN.out _) ?_; intro v1 w10 hs1)
        have HS1 := Aside0.mk hs1
        clear hs1
        go_wp2
        go_roundg (kk.length - i)
        case measure => have := HQ.out; have := HC.out; omega
        case rel => exact ⟨i + 1, _, _, rfl, rfl, by go_num, by have := HC.out; omega, ⟨by omega⟩, ⟨by rw [HTF.out, HTF.out, HB.out]; simpa using HS1.out⟩⟩
    · obtain rfl : i = kk.length := by omega
      clear hlt
      rw [List.take_length, HH.out, HO.out] at HS
      have C := Aside0.mk (CB.out wr HS.out.below (HS.out.arr 1 rfl))
      go_wp2_with fail
      refine C.out.mono ?_
      clear C CB
      rintro e w9 ⟨A2, k2, rfl, _, _, g3', hb⟩
      replace HS : Aside0 (Sep w w9 [S1.Arr p sb ob wb n E.g, S1.Arr q qs qo qw n g2, S1.Arr u us uo uw n g3, S1.Own (.slice A4 ct c4) (plK ct k f k), S1.Own (.slice A1 kk.length k1) kk, S1.Own y1 (plK ct k f k), S1.Own y2 (kb.filter (fun x => !inB (8 * a) (8 * (a + b)) x)), S1.Own (.slice A2 kb.length k2) kb, S1.Own (.slice none 0 0) []]) := ⟨(HS.out.new_own hb g3').push (Below.refl _ _) (S1.Own (.slice none 0 0) []) (own_nil _ _ _ _) (fun k hk => by simp [S1.Own, Value.ownBlock] at hk)⟩
      clear g3' hb
      go_wp2
      go_loopg [25, 27] (kb.length + 1) (fun kq v25 v27 W => ∃ (i : Nat) (y3 : Value), y3 = v25 ∧ v27 = .int .i64 (i : Int) ∧ i ≤ kb.length ∧ Aside0 (kb.length + 1 - i ≤ kq) ∧ Aside0 (Sep w W [S1.Arr p sb ob wb n E.g, S1.Arr q qs qo qw n g2, S1.Arr u us uo uw n g3, S1.Own (.slice A4 ct c4) (plK ct k f k), S1.Own (.slice A1 kk.length k1) kk, S1.Own y1 (plK ct k f k), S1.Own y2 (kb.filter (fun x => !inB (8 * a) (8 * (a + b)) x)), S1.Own (.slice A2 kb.length k2) kb, S1.Own y3 ((kb.take i).filter (fun x => !inB (8 * a) (8 * (a + b)) x))]))
      case atStart => exact ⟨0, _, rfl, rfl, by omega, ⟨by omega⟩, HS⟩
      case round =>
        clear HS HQ
        obtain ⟨i, y3, rfl, rfl, hi, HQ, HS⟩ := hrel
        by_cases hlt : i < kb.length
        · have HC := Aside0.mk hlt
          have hi5 : (i : Int) ≤ 200 := by have := HKL.out.2; omega
          obtain ⟨ad, rfl⟩ : ∃ ad, A2 = some ad := by
            obtain ⟨A', c', e', _, h2⟩ := G9.own_C (HS.out.own 7 rfl)
            injection e' with e1 e2 e3
            subst e1
            obtain ⟨ad, e, hx⟩ := Kd.at_int h2 (i : Int) (by omega) (by omega)
            exact ⟨ad, e⟩
          have hx : wr.cell? (ad.add i) = some (.int .i64 (kb.getD i 0)) := by
            obtain ⟨A', c', e', _, h2⟩ := G9.own_C (HS.out.own 7 rfl)
            injection e' with e1 e2 e3
            subst e1
            obtain ⟨ad', e, hx⟩ := Kd.at_int h2 (i : Int) (by omega) (by omega)
            rw [Int.toNat_natCast, show rd kb (i : Int) = kb.getD i 0 from rfl] at hx
            cases e
            exact hx
          have HTF := Aside0.mk (fun p => take_filter (l := kb) (p := p) hlt)
          have HLN : Aside0 (∀ p : Int → Bool, ((kb.take i).filter p).length ≤ 1000000) := ⟨fun p => by have := List.length_filter_le p (kb.take i); rw [List.length_take] at this; have := HKL.out.2; omega⟩
          generalize kb.getD i 0 = x at hx HTF
          by_cases x1 : x < 8 * a
          · have t1 : decide (x < 8 * a) = true := decide_eq_true x1
            have HB : Aside0 (inB (8 * a) (8 * (a + b)) x = false) := ⟨by unfold inB; rw [decide_eq_false (show ¬ 8 * a ≤ x by omega)]; rfl⟩
            clear x1
            go_wp2_with ((with_reducible refine gate_builtin (b := .append) (xs := #[.tmp 194, .tmp 199]) rfl ?_); at_builtin; refine SN.sep_append rfl (.tmp 194) (.tmp 199) rfl HS.out 8 rfl x rfl rfl (HLN.out _) ?_; intro v1 w10 hs1)
            have HS1 := Aside0.mk hs1
            clear hs1
            go_wp2
            go_roundg (kb.length - i)
            case measure => have := HQ.out; have := HC.out; omega
            case rel => exact ⟨i + 1, _, rfl, by go_num, by have := HC.out; omega, ⟨by omega⟩, ⟨by rw [HTF.out, HB.out]; simpa using HS1.out⟩⟩
          · have t1 : decide (x < 8 * a) = false := decide_eq_false x1
            by_cases x2 : 8 * (a + b) ≤ x
            · have t2 : decide (8 * (a + b) ≤ x) = true := decide_eq_true x2
              have HB : Aside0 (inB (8 * a) (8 * (a + b)) x = false) := ⟨by unfold inB; rw [decide_eq_false (show ¬ x < 8 * (a + b) by omega), Bool.and_false]⟩
              clear x1 x2
              go_wp2_with ((with_reducible refine gate_builtin (b := .append) (xs := #[.tmp 194, .tmp 199]) rfl ?_); at_builtin; refine SN.sep_append rfl (.tmp 194) (.tmp 199) rfl HS.out 8 rfl x rfl rfl (HLN.out _) ?_; intro v1 w10 hs1)
              have HS1 := Aside0.mk hs1
              clear hs1
              go_wp2
              go_roundg (kb.length - i)
              case measure => have := HQ.out; have := HC.out; omega
              case rel => exact ⟨i + 1, _, rfl, by go_num, by have := HC.out; omega, ⟨by omega⟩, ⟨by rw [HTF.out, HB.out]; simpa using HS1.out⟩⟩
            · have t2 : decide (8 * (a + b) ≤ x) = false := decide_eq_false x2
              have HB : Aside0 (inB (8 * a) (8 * (a + b)) x = true) := ⟨by unfold inB; rw [decide_eq_true (show 8 * a ≤ x by omega), decide_eq_true (show x < 8 * (a + b) by omega)]; rfl⟩
              clear x1 x2
              go_wp2
              go_roundg (kb.length - i)
              case measure => have := HQ.out; have := HC.out; omega
              case rel => exact ⟨i + 1, _, rfl, by go_num, by have := HC.out; omega, ⟨by omega⟩, ⟨by rw [HTF.out, HB.out]; simpa using HS.out⟩⟩
        · obtain rfl : i = kb.length := by omega
          clear hlt
          rw [List.take_length] at HS
          obtain ⟨Aa, ca, ea, h1a, h2a⟩ := G9.own_C (HS.out.own 5 rfl)
          (try (injection ea with e1 e2 e3; subst e1; subst e3; (try rw [← e2] at h1a h2a); clear e2))
          (try subst ea)
          obtain ⟨Ab, cb, eb, h1b, h2b⟩ := G9.own_C (HS.out.own 3 rfl)
          (try (injection eb with e1 e2 e3; subst e1; subst e3; (try rw [← e2] at h1b h2b); clear e2))
          (try subst eb)
          have HZ1 := Aside0.mk (pl_len (n := ct) f HW.out.2.2.1)
          have HQ1 : Aside0 ((plK ct k f k).length ≤ 1000000) := ⟨by rw [HZ1.out]; have := HF.out.most; have := HW.out.2.2.2.1; have := HN.out.1; omega⟩
          have C := ints_any h2a h1a h2b h1b HQ1.out
          rw [decide_eq_true rfl] at C
          have C := Aside0.mk C
          clear h1a h2a h1b h2b
          go_wp2_with fail
          refine C.out.mono ?_
          clear C
          rintro e w11 ⟨rfl, hd⟩
          replace HS := Aside0.mk (HS.out.step hd.below)
          clear hd
          obtain ⟨Ad, cd, ed, h1d, h2d⟩ := G9.own_C (HS.out.own 6 rfl)
          (try (injection ed with e1 e2 e3; subst e1; subst e3; (try rw [← e2] at h1d h2d); clear e2))
          (try subst ed)
          obtain ⟨Ae, ce, ee, h1e, h2e⟩ := G9.own_C (HS.out.own 8 rfl)
          (try (injection ee with e1 e2 e3; subst e1; subst e3; (try rw [← e2] at h1e h2e); clear e2))
          (try subst ee)
          have HQ2 : Aside0 ((kb.filter (fun x => !inB (8 * a) (8 * (a + b)) x)).length ≤ 1000000) := ⟨by have := List.length_filter_le (fun x => !inB (8 * a) (8 * (a + b)) x) kb; have := HKL.out.2; omega⟩
          have C := ints_any h2d h1d h2e h1e HQ2.out
          rw [decide_eq_true rfl] at C
          have C := Aside0.mk C
          clear h1d h2d h1e h2e
          go_wp2_with fail
          refine C.out.mono ?_
          clear C
          rintro e w12 ⟨rfl, hd⟩
          replace HS := Aside0.mk (HS.out.step hd.below)
          clear hd
          have HS : Aside0 (Sep w w12 [S1.Arr p sb ob wb n E.g, S1.Arr q qs qo qw n g2, S1.Arr u us uo uw n g3, S1.Own (.slice A1 kk.length k1) kk]) := ⟨HS.out.sub (.cons_cons _ (.cons_cons _ (.cons_cons _ (.cons _ (.cons_cons _ (List.nil_sublist _))))))⟩
          have C := even_any (s := ()) (T := T0) (f := f) (k := k) (tell_no w n E.g []) HT.out HS.out HF.out.len HW.out.2.2.2.1 HW.out.2.2.2.2 HW.out.2.2.1
          rw [← HW.out.1, ← HW.out.2.1] at C
          obtain ⟨mj, hmj⟩ : ∃ mj : Int, ((evenR n f k E.g).ms.length : Int) = mj := ⟨_, rfl⟩
          rw [hmj] at C
          have C := Aside0.mk C
          clear hmj
          go_wp2_with fail
          refine C.out.mono ?_
          clear C
          rintro e w13 ⟨rfl, _, hs1⟩
          have HS : Aside0 (Sep w w13 [S1.Arr u us uo uw n g3, S1.Arr p sb ob wb n (evenR n f k E.g).g, S1.Arr q qs qo qw n g2, S1.Own (.slice A1 kk.length k1) kk]) := ⟨Sep.perm hs1 (perm4 ..)⟩
          clear hs1
          have C := left_any (s := ()) (T := T0) (f := f) (k := k) (tell_no w n g3 []) HT.out HS.out HM3.out.len HW.out.2.2.2.1 HW.out.2.2.2.2 HW.out.2.2.1
          rw [← HW.out.1, ← HW.out.2.1] at C
          obtain ⟨mj2, hmj⟩ : ∃ mj : Int, ((leftR n f k g3).ms.length : Int) = mj := ⟨_, rfl⟩
          rw [hmj] at C
          have C := Aside0.mk C
          clear hmj
          go_wp2_with fail
          refine C.out.mono ?_
          clear C
          rintro e w14 ⟨rfl, _, hs1⟩
          have HS : Aside0 (Sep w w14 [S1.Arr u us uo uw n (leftR n f k g3).g, S1.Arr p sb ob wb n (evenR n f k E.g).g, S1.Arr q qs qo qw n g2, S1.Own (.slice A1 kk.length k1) kk]) := ⟨hs1⟩
          clear hs1
          have C := even_any (s := ()) (T := T0) (f := f) (k := k) (tell_no w n (leftR n f k g3).g []) HT.out HS.out HL.out HW.out.2.2.2.1 HW.out.2.2.2.2 HW.out.2.2.1
          rw [← HW.out.1, ← HW.out.2.1] at C
          obtain ⟨mj3, hmj⟩ : ∃ mj : Int, ((evenR n f k (leftR n f k g3).g).ms.length : Int) = mj := ⟨_, rfl⟩
          rw [hmj] at C
          have C := Aside0.mk C
          clear hmj
          go_wp2_with fail
          refine C.out.mono ?_
          clear C
          rintro e w15 ⟨rfl, _, hs1⟩
          have HS : Aside0 (Sep w w15 [S1.Arr u us uo uw n (evenR n f k (leftR n f k g3).g).g, S1.Arr p sb ob wb n (evenR n f k E.g).g, S1.Arr q qs qo qw n g2, S1.Own (.slice A1 kk.length k1) kk]) := ⟨hs1⟩
          clear hs1
          generalize evenR n f k (leftR n f k g3).g = R2 at HS HP HI
          generalize evenR n f k E.g = R1 at HS HG
          obtain ⟨m5, hm5⟩ : ∃ m, cntF R1.g.on n = m := ⟨_, rfl⟩
          obtain ⟨vs, hsl⟩ := HS.out.arr 1 rfl
          have C := places_any hsl (Kd.C_below HT.out HS.out.below)
          rw [HG.out, hm5] at C
          have C := Aside0.mk C
          clear hsl vs
          go_wp2_with fail
          refine C.out.mono ?_
          clear C
          rintro e f ⟨Af, cf, rfl, g1f, g2f, g3f, hb⟩
          replace HS := Aside0.mk (HS.out.step hb)
          obtain ⟨Ah, ch, eh, h1h, h2h⟩ := G9.own_C (HS.out.own 3 rfl)
          (try (injection eh with e1 e2 e3; subst e1; subst e3; (try rw [← e2] at h1h h2h); clear e2))
          (try subst eh)
          have HQ3 : Aside0 (kk.length ≤ 1000000) := ⟨by have := HKL.out.1; omega⟩
          have C := ints_any g2f g1f h2h h1h HQ3.out
          rw [decide_eq_true rfl] at C
          have C := Aside0.mk C
          clear g1f g2f g3f hb h1h h2h hm5
          go_wp2_with fail
          refine C.out.mono ?_
          clear C
          rintro e w16 ⟨rfl, hd⟩
          replace HS := Aside0.mk (HS.out.step hd.below)
          clear hd
          obtain ⟨m6, hm6⟩ : ∃ m, cntF R2.g.on n = m := ⟨_, rfl⟩
          obtain ⟨vs, hsl⟩ := HS.out.arr 0 rfl
          have C := places_any hsl (Kd.C_below HT.out HS.out.below)
          rw [HP.out, hm6] at C
          have C := Aside0.mk C
          clear hsl vs
          go_wp2_with fail
          refine C.out.mono ?_
          clear C
          rintro e i ⟨Ai, ci, rfl, g1i, g2i, g3i, hb⟩
          replace HS := Aside0.mk (HS.out.step hb)
          obtain ⟨Aj, cj, ej, h1j, h2j⟩ := G9.own_C (HS.out.own 3 rfl)
          (try (injection ej with e1 e2 e3; subst e1; subst e3; (try rw [← e2] at h1j h2j); clear e2))
          (try subst ej)
          have HQ4 : Aside0 (kk.length ≤ 1000000) := ⟨by have := HKL.out.1; omega⟩
          have C := ints_any g2i g1i h2j h1j HQ4.out
          rw [decide_eq_true rfl] at C
          have C := Aside0.mk C
          clear g1i g2i g3i hb h1j h2j
          go_wp2_with fail
          refine C.out.mono ?_
          clear C
          rintro e w17 ⟨rfl, hd⟩
          replace HS := Aside0.mk (HS.out.step hd.below)
          clear hd
          obtain ⟨m7, hm7⟩ : ∃ m, cntF g.on n = m := ⟨_, rfl⟩
          obtain ⟨vs, hsl⟩ := HS.out.arr 0 rfl
          have C := items_any hsl (Kd.C_below HT.out HS.out.below)
          rw [HI.out, hm6] at C
          have C := Aside0.mk C
          clear hsl vs
          go_wp2_with fail
          refine C.out.mono ?_
          clear C
          rintro e za ⟨Aza, cza, rfl, g1za, g2za, g3za, hb⟩
          replace HS := Aside0.mk (HS.out.step hb)
          have HR1 := Aside0.mk (And.intro g1za g2za)
          clear g1za g2za g3za hb
          obtain ⟨vs, hsl⟩ := HS.out.arr 2 rfl
          have C := items_any hsl (Kd.C_below HT.out HS.out.below)
          rw [HM.out.ons, HM.out.on, hm7] at C
          have C := Aside0.mk C
          clear hsl vs
          go_wp2_with fail
          refine C.out.mono ?_
          clear C
          rintro e zb ⟨Azb, czb, rfl, g1zb, g2zb, g3zb, hb⟩
          replace HS := Aside0.mk (HS.out.step hb)
          have C := ints_any (Kd.C_below HR1.out.2 hb) HR1.out.1 g2zb g1zb HML.out
          rw [decide_eq_true rfl] at C
          have C := Aside0.mk C
          clear g1zb g2zb g3zb hb HR1
          go_wp2_with fail
          refine C.out.mono ?_
          clear C
          rintro e zc ⟨rfl, hd⟩
          replace HS := Aside0.mk (HS.out.step hd.below)
          clear hd
          clear hm6 hm7
          have C := Aside0.mk (awake_any _ (Kd.C_below HT.out HS.out.below))
          go_wp2_with fail
          refine C.out.mono ?_
          clear C
          rintro e w30 ⟨rfl, hb⟩
          replace HS := Aside0.mk (HS.out.step hb)
          clear hb
          go_wp2
          (try rw [Exit.noGoto_ret])
          go_ret
          exact ⟨rfl, HS.out.below⟩
end
theorem law (s : Int) (ws : (Lit.int .i64 s).wf = true) (A : Option Addr) (c : Nat) (l : List Int) {W0 : World} (g : Kd.C (Kd.int .i64) W0 A l.length l) (e : l.length ≤ c) (wl : ∀ x ∈ l, (Lit.int .i64 x).wf = true) (hl : l.length ≤ 9223372036854775807) (a : Int) (wa : (Lit.int .i64 a).wf = true) (k : Int) (wk : (Lit.int .i64 k).wf = true) (W : World) (hT : Tb W) (hW : W = W0 := by rfl) :
    Calls Tryd.prog 13 #[.agg #[.int .i64 s, .slice A l.length c], .int .i64 a, .int .i64 k] W fun e w' => e = .returned (.bool true) ∧ Below W.heap.size W w' := by
  subst hW
  have hs := wf_le ws
  cases hw : winB (nOf s) a k with
  | false => exact law_no hT g hl hs hw
  | true =>
    obtain ⟨f, m, rfl, rfl, h1, h2, h3⟩ := win_nat hw
    exact law_yes hT g hl hs rfl rfl h1 h2 h3
end Go.Proofs.YtofkkdjbilklcaaDoor.ZX
