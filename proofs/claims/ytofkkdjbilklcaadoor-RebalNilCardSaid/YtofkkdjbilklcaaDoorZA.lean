/- The law's helpers of chapter 07: agree, awake. -/
import Derived.Test.YtofkkdjbilklcaaDoorZB
import Derived.Deep.RegionHeld3
namespace Go.Proofs.YtofkkdjbilklcaaDoor.ZA
open Go.RowKit Go.Shelf Go.Proofs.YtofkkdjbilklcaaDoorW.PrintWords Go.Proofs.YtofkkdjbilklcaaDoorW.PrintLast Go.Proofs.YtofkkdjbilklcaaDoorW.PrintMore G1 G0 Q1 G2 G3 G4 G5 G6 G7 G8 G9 G10 S1 Y1 Y3 Y2 Z0 Z1 Z2 Z3 Z4 ZR ZM ZP
set_option linter.unusedVariables false
set_option linter.unusedSimpArgs false
theorem own_row {w w' : World} {v : Value} {xs : List Int} (h : Sep w w' [S1.Own v xs]) : ∃ A c, v = .slice A xs.length c ∧ xs.length ≤ c ∧ Kd.C (Kd.int .i64) w' A xs.length xs := G9.own_C (h.own 0 rfl)
set_option maxRecDepth 100000 in
set_option maxHeartbeats 2000000 in
theorem agree_any {w : World} {p sb ob wb n r lb : Nat} {g : Gap} (hI : Is w p sb ob wb n g) (hR : RefAt w r lb n g) (hT : Tb w) (hn : n ≤ 100000) : Calls Tryd.prog 19 #[.pointer (some ⟨p, 0, none⟩), .pointer (some ⟨r, 0, none⟩)] w fun e w' => e = .returned (.bool true) ∧ Below w.heap.size w w' := by
  have d1 := hR.c0
  have HI := Aside0.mk hI
  have HR := Aside0.mk hR
  have HT := Aside0.mk hT
  have lv : (vals (ons g.on g.xs n)).length = cntF g.on n := by rw [vals, List.length_map, ons_length]
  have lk : (keys (ons g.on g.xs n)).length = cntF g.on n := by rw [keys, List.length_map, ons_length]
  have hc : cntF g.on n ≤ 100000 := Nat.le_trans (cntF_le _ _) hn
  have C1 := Aside0.mk (fun (W : World) (hb : Below w.heap.size w W) => by
    obtain ⟨vs, hs⟩ := hI.below hb
    exact items_any hs (Kd.C_below hT hb))
  have C2 := Aside0.mk (fun (W : World) (hb : Below w.heap.size w W) => ritems_any (hR.below hb))
  have C4 := Aside0.mk (fun (W : World) (hb : Below w.heap.size w W) => by
    obtain ⟨vs, hs⟩ := hI.below hb
    exact places_any hs (Kd.C_below hT hb))
  have C5 := Aside0.mk (fun (W : World) (hb : Below w.heap.size w W) => rplaces_any (hR.below hb))
  have C7 := Aside0.mk (fun (W : World) (hb : Below w.heap.size w W) => by
    obtain ⟨vs, hs⟩ := hI.below hb
    exact cap_any hs)
  generalize vals (ons g.on g.xs n) = v at *
  generalize keys (ons g.on g.xs n) = kk at *
  generalize cntF g.on n = m at *
  have HL := Aside0.mk (And.intro lv (And.intro lk hc))
  clear hI hR hT lv lk hc hn
  go_enter Tryd.func19, Tryd.ntmps19
  go_wp2
  go_region_held3 (fun W => Below w.heap.size w W ∧ W.cell? ⟨r, 0, none⟩ = some (.slice (some ⟨lb, 0, none⟩) n n)) (first | exact ⟨HB6.out, z6⟩ | exact ⟨HB5.out, z5⟩ | exact ⟨HB4.out, z4⟩ | exact ⟨HB3.out, z3⟩ | exact ⟨HB2.out, z2⟩ | exact ⟨HB1.out, z1⟩ | exact ⟨below_drew (Below.refl _ _), d1⟩) (first
    | (go_at_call 28; refine (C7.out _ HB6.out).mono ?_; rintro e w9 ⟨rfl, rfl⟩)
    | (go_at_call 33; refine (CJ.out).mono ?_; rintro e w8 ⟨rfl, hd⟩; have HB6 := Aside0.mk (below_step HB5.out hd.below); have z6 := pw_cell_below HB6.out d1; clear hd)
    | (go_at_call 70; refine (C5.out _ HB4.out).mono ?_; rintro e w7 ⟨v5, rfl, hs5⟩; have HB5 := Aside0.mk (below_step HB4.out hs5.below); have z5 := pw_cell_below HB5.out d1; obtain ⟨A5, c5, rfl, k51, k52⟩ := own_row hs5; have CJ := ints_any (Kd.C_below k42 hs5.below) k41 k52 k51 (by have := HL.out; omega); rw [decide_eq_true rfl] at CJ; have CJ := Aside0.mk CJ; clear hs5 k51 k52)
    | (go_at_call 29; refine (C4.out _ HB3.out).mono ?_; rintro e w6 ⟨A4, c4, rfl, k41, k42, k43, hb⟩; have HB4 := Aside0.mk (below_step HB3.out hb); have z4 := pw_cell_below HB4.out d1; clear hb k43)
    | (go_at_call 33; refine (CI.out).mono ?_; rintro e w5 ⟨rfl, hd⟩; have HB3 := Aside0.mk (below_step HB2.out hd.below); have z3 := pw_cell_below HB3.out d1; clear hd)
    | (go_at_call 69; refine (C2.out _ HB1.out).mono ?_; rintro e w4 ⟨v2, rfl, hs2⟩; have HB2 := Aside0.mk (below_step HB1.out hs2.below); have z2 := pw_cell_below HB2.out d1; obtain ⟨A2, c2, rfl, k21, k22⟩ := own_row hs2; have CI := ints_any (Kd.C_below k12 hs2.below) k11 k22 k21 (by have := HL.out; omega); rw [decide_eq_true rfl] at CI; have CI := Aside0.mk CI; clear hs2 k21 k22)
    | (go_at_call 30; refine (C1.out _ (below_drew (Below.refl _ _))).mono ?_; rintro e w3 ⟨A1, c1, rfl, k11, k12, k13, hb⟩; have HB1 := Aside0.mk (below_step (below_drew (Below.refl w.heap.size w)) hb); have z1 := pw_cell_below HB1.out d1; clear hb k13))
  go_wp2
  go_ret
  exact ⟨rfl, HB6.out⟩
abbrev gA : Gap := G7 7 [1, 3, 4]
abbrev gE : EV := evenR 8 0 1 gA
abbrev gO : OP := openR 8 0 4 gA
abbrev gP : OP := openR 8 0 3 gO.r.g
theorem n7 : nOf 7 = 8 := by decide +kernel
theorem fE : gE.ms.length = 5 ∧ keys (ons gE.g.on gE.g.xs 8) = [0, 2, 5] ∧ cntF gE.g.on 8 = 3 := by decide +kernel
theorem fO : gO.k = 5 ∧ gO.e = 0 ∧ gO.r.g.xs.length = 8 ∧ gO.r.g.on 3 = true := by decide +kernel
theorem fP : gP.k = 4 ∧ gP.e = 0 ∧ keys (ons gP.r.g.on gP.r.g.xs 8) = [1, 3, 5] ∧ cntF gP.r.g.on 8 = 3 := by decide +kernel
theorem fA : gA.xs.length = 8 ∧ gA.on 4 = true := by decide +kernel
theorem fW : winB 8 ((0 : Nat) : Int) 1 = true := by decide +kernel
set_option maxRecDepth 100000 in
set_option maxHeartbeats 2000000 in
theorem awake_any (w : World) (hT : Tb w) : Calls Tryd.prog 20 #[] w fun e w' => e = .returned (.bool true) ∧ Below w.heap.size w w' := by
  have HT := Aside0.mk hT
  have HA := below_alloc (Below.refl w.heap.size w) (.cells #[.int .i64 1, .int .i64 3, .int .i64 4] 3)
  have HS := Aside0.mk (((Sep.nil w).step HA).new_blk #[.int .i64 7, .slice (some ⟨w.heap.size, 0, none⟩) 3 3] 24)
  have HR := Aside0.mk (Kd.C_below (lit_reads w [1, 3, 4] (by decide)) (below_alloc (Below.refl _ _) (.cells #[.int .i64 7, .slice (some ⟨w.heap.size, 0, none⟩) 3 3] 24)))
  have C := made_any (c := 3) (s := 7) HR.out (by decide) (by decide)
  rw [n7] at C
  have C := Aside0.mk C
  have c0 : (_ : Option Value) = some (.int .i64 7) := (blk_cell (HS.out.blk 0 rfl) 0).trans rfl
  have c1 : (_ : Option Value) = some (.slice (some ⟨w.heap.size, 0, none⟩) 3 3) := (blk_cell (HS.out.blk 0 rfl) 1).trans rfl
  clear hT HA
  go_enter Tryd.func20, Tryd.ntmps20
  go_wp2_with fail
  refine C.out.mono ?_
  clear C c0 c1
  rintro e w1 ⟨p, sb, ob, wb, r, lb, rfl, hs1⟩
  replace HR := Aside0.mk (Kd.C_below HR.out hs1.below)
  replace HS := Aside0.mk (HS.out.append hs1)
  clear hs1
  have C := made_any (c := 3) (s := 7) HR.out (by decide) (by decide)
  rw [n7] at C
  have C := Aside0.mk C
  have c0 : (_ : Option Value) = some (.int .i64 7) := (blk_cell (HS.out.blk 0 rfl) 0).trans rfl
  have c1 : (_ : Option Value) = some (.slice (some ⟨_, 0, none⟩) 3 3) := (blk_cell (HS.out.blk 0 rfl) 1).trans rfl
  simp only [World.size_alloc] at c0 c1
  go_wp2_with fail
  refine C.out.mono ?_
  clear C c0 c1 HR
  rintro e w2 ⟨q, qs, qo, qw, r2, lb2, rfl, hs1⟩
  replace HS := Aside0.mk (HS.out.append hs1)
  clear hs1
  have HS1 : Aside0 (Sep w w2 ((fun (_ : Unit) (_ : List Mv) => ([] : List Ob)) () [] ++ (S1.Arr p sb ob wb 8 gA :: [S1.Arr q qs qo qw 8 gA]))) := ⟨HS.out.sub (by
    show List.Sublist [S1.Arr p sb ob wb 8 gA, S1.Arr q qs qo qw 8 gA] [_, S1.Arr p sb ob wb 8 gA, _, S1.Arr q qs qo qw 8 gA, _]
    exact .cons _ (.cons_cons _ (.cons _ (.cons_cons _ (.cons _ .slnil)))))⟩
  have C := even_any (s := ()) (f := 0) (k := 1) (tell_no w 8 gA []) HT.out HS1.out (Nat.le_of_eq fA.1.symm) (by decide) (by decide) (by decide)
  rw [fE.1] at C
  change Calls _ _ #[_, .int .i64 0, .int .i64 1, _] _ (fun e w' => e = .returned (.tuple #[.int .i64 5, .int .i64 0]) ∧ _) at C
  have C := Aside0.mk C
  clear HS
  go_wp2_with fail
  refine C.out.mono ?_
  clear C HS1
  rintro e w3 ⟨rfl, _, hs1⟩
  have HS1 : Aside0 (Sep w w3 ((fun (_ : Unit) (_ : List Mv) => ([] : List Ob)) () [] ++ (S1.Arr q qs qo qw 8 gA :: [S1.Arr p sb ob wb 8 gE.g]))) := ⟨hs1.perm (List.Perm.swap _ _ _)⟩
  clear hs1
  have C := open_behind (s := ()) (sg := 0) (bn := 4) (tell_no w 8 gA []) HS1.out (Nat.le_of_eq fA.1.symm) fW (by decide) (by decide) fA.2
  change Calls _ _ #[_, .int .i64 0, .int .i64 4, _] _ (fun e w' => e = .returned (.tuple #[.int .i64 gO.k, .int .i64 gO.e]) ∧ _) at C
  rw [fO.1, fO.2.1] at C
  have C := Aside0.mk C
  go_wp2_with fail
  refine C.out.mono ?_
  clear C HS1
  rintro e w4 ⟨rfl, _, hs1⟩
  have HS1 : Aside0 (Sep w w4 ((fun (_ : Unit) (_ : List Mv) => ([] : List Ob)) () [] ++ (S1.Arr q qs qo qw 8 gO.r.g :: [S1.Arr p sb ob wb 8 gE.g]))) := ⟨hs1⟩
  clear hs1
  have C := open_behind (s := ()) (sg := 0) (bn := 3) (tell_no w 8 gO.r.g []) HS1.out (Nat.le_of_eq fO.2.2.1.symm) fW (by decide) (by decide) fO.2.2.2
  change Calls _ _ #[_, .int .i64 0, .int .i64 3, _] _ (fun e w' => e = .returned (.tuple #[.int .i64 gP.k, .int .i64 gP.e]) ∧ _) at C
  rw [fP.1, fP.2.1] at C
  have C := Aside0.mk C
  go_wp2_with fail
  refine C.out.mono ?_
  clear C HS1
  rintro e w5 ⟨rfl, _, hs1⟩
  have HS : Aside0 (Sep w w5 [S1.Arr q qs qo qw 8 gP.r.g, S1.Arr p sb ob wb 8 gE.g]) := ⟨hs1⟩
  clear hs1
  obtain ⟨vs, hs⟩ := HS.out.arr 1 rfl
  have C := places_any hs (Kd.C_below HT.out HS.out.below)
  rw [fE.2.1, fE.2.2] at C
  have C := Aside0.mk C
  clear hs vs
  go_wp2_with fail
  refine C.out.mono ?_
  clear C
  rintro e w6 ⟨A1, k1, rfl, g1, g2, g3, hb⟩
  replace HS := Aside0.mk (HS.out.step hb)
  have HA := below_alloc (Below.refl w6.heap.size w6) (.cells #[.int .i64 0, .int .i64 2, .int .i64 5] 3)
  have C := ints_any (l := [0, 2, 5]) (m := [0, 2, 5]) (d := 3) (Kd.C_below g2 HA) g1 (lit_reads w6 [0, 2, 5] (by decide)) (Nat.le_refl _) (by decide)
  rw [decide_eq_true rfl] at C
  have C := Aside0.mk C
  replace HS := Aside0.mk (HS.out.step HA)
  clear hb g1 g2 g3 HA
  go_wp2_with fail
  refine C.out.mono ?_
  clear C
  rintro e w7 ⟨rfl, hd⟩
  replace HS := Aside0.mk (HS.out.step hd.below)
  clear hd
  obtain ⟨vs, hs⟩ := HS.out.arr 0 rfl
  have C := places_any hs (Kd.C_below HT.out HS.out.below)
  rw [fP.2.2.1, fP.2.2.2] at C
  have C := Aside0.mk C
  clear hs vs
  go_wp2_with fail
  refine C.out.mono ?_
  clear C
  rintro e w8 ⟨A2, k2, rfl, g1, g2, g3, hb⟩
  replace HS := Aside0.mk (HS.out.step hb)
  have HA := below_alloc (Below.refl w8.heap.size w8) (.cells #[.int .i64 1, .int .i64 3, .int .i64 5] 3)
  have C := ints_any (l := [1, 3, 5]) (m := [1, 3, 5]) (d := 3) (Kd.C_below g2 HA) g1 (lit_reads w8 [1, 3, 5] (by decide)) (Nat.le_refl _) (by decide)
  rw [decide_eq_true rfl] at C
  have C := Aside0.mk C
  replace HS := Aside0.mk (HS.out.step HA)
  clear hb g1 g2 g3 HA
  go_wp2_with fail
  refine C.out.mono ?_
  clear C
  rintro e w9 ⟨rfl, hd⟩
  replace HS := Aside0.mk (HS.out.step hd.below)
  clear hd
  go_wp2
  go_ret
  exact ⟨rfl, HS.out.below⟩
end Go.Proofs.YtofkkdjbilklcaaDoor.ZA
