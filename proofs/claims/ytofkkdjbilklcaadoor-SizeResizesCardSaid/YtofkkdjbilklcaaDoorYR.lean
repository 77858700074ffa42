/- The law SizeResizes walked: it returns true, whatever the array and the number of slots. -/
import Derived.Test.YtofkkdjbilklcaaDoorY9
namespace Go.Proofs.YtofkkdjbilklcaaDoor.YR
open Go.RowKit Go.Shelf Go.Proofs.YtofkkdjbilklcaaDoorW.PrintWords Go.Proofs.YtofkkdjbilklcaaDoorW.PrintLast Go.Proofs.YtofkkdjbilklcaaDoorW.PrintMore G1 G0 Q1 G2 G3 G4 G5 G6 G7 G8 G9 G10 S1 Y1 Y3 Y2 Y4 Y5 Y6 Y7 Y9
open L1 (capB)
set_option linter.unusedVariables false
set_option linter.unusedSimpArgs false
/-- Numbers may be a capacity's alone where they are one's. -/
theorem cap_pos {s : Int} (h : capB s = true) : ∃ S : Nat, s = (S : Int) := by
  have := of_decide_eq_true h
  exact Int.eq_ofNat_of_zero_le (by omega)
section
variable {w : World} {A : Option Addr} {c : Nat} {l : List Int}
theorem law_none (hT : Tb w) {n : Int} (h : 5000 < n ∨ 300 < l.length ∨ n < 1) (s : Int) : Calls Tryd.prog 8 #[.agg #[.int .i64 n, .slice A l.length c], .int .i64 s] w fun e w' => e = .returned (.bool true) ∧ Below w.heap.size w w' := by
  have HT := Aside0.mk hT
  have HS := Aside0.mk ((Sep.nil w).new_blk #[.int .i64 n, .slice A l.length c] 66)
  have c0 : (_ : Option Value) = some (.int .i64 n) := (blk_cell (HS.out.blk 0 rfl) 0).trans rfl
  have c1 : (_ : Option Value) = some (.slice A l.length c) := (blk_cell (HS.out.blk 0 rfl) 1).trans rfl
  have C := Aside0.mk (fun w => made_none (A := A) (c := c) h w)
  clear hT h
  go_enter Tryd.func8, Tryd.ntmps8
  go_wp2_with fail
  refine (C.out _).mono ?_
  clear C c0 c1
  rintro e w1 ⟨rfl, hb⟩
  replace HS := Aside0.mk (HS.out.step hb)
  clear hb
  have C := Aside0.mk (awake_any _ (Kd.C_below HT.out HS.out.below))
  go_wp2_with fail
  refine C.out.mono ?_
  clear C
  rintro e w30 ⟨rfl, hb⟩
  replace HS := Aside0.mk (HS.out.step hb)
  clear hb
  go_wp2
  (try rw [Exit.noGoto_ret])
  go_ret
  exact ⟨rfl, HS.out.below⟩
theorem law_bad (hT : Tb w) (hr : Kd.C (Kd.int .i64) w A l.length l) {n : Nat} (h1 : 1 ≤ n) (h2 : n ≤ 5000) (h3 : l.length ≤ 300) {s : Int} (hc : capB s = false) : Calls Tryd.prog 8 #[.agg #[.int .i64 (n : Int), .slice A l.length c], .int .i64 s] w fun e w' => e = .returned (.bool true) ∧ Below w.heap.size w w' := by
  have HT := Aside0.mk hT
  have HS := Aside0.mk ((Sep.nil w).new_blk #[.int .i64 (n : Int), .slice A l.length c] 66)
  have c0 : (_ : Option Value) = some (.int .i64 (n : Int)) := (blk_cell (HS.out.blk 0 rfl) 0).trans rfl
  have c1 : (_ : Option Value) = some (.slice A l.length c) := (blk_cell (HS.out.blk 0 rfl) 1).trans rfl
  have C := Aside0.mk (made_yes (c := c) (Kd.C_below hr HS.out.below) h1 h2 h3)
  clear hT hr h1 h2 h3
  go_enter Tryd.func8, Tryd.ntmps8
  go_wp2_with fail
  refine C.out.mono ?_
  clear C c0 c1
  rintro e w1 ⟨p, sb, ob, wb, rfl, hs1⟩
  replace HS := Aside0.mk (HS.out.append hs1)
  clear hs1
  obtain ⟨vs, hs⟩ := HS.out.arr 1 rfl
  have C := Aside0.mk (items_any hs (Kd.C_below HT.out HS.out.below))
  clear hs vs
  go_wp2_with fail
  refine C.out.mono ?_
  clear C
  rintro e w2 ⟨A1, c1, rfl, g1, g2, g3, hb⟩
  replace HS := Aside0.mk (HS.out.step hb)
  have G := Aside0.mk (And.intro g1 g2)
  clear g1 g2 g3 hb
  generalize hg : madeG n l l.length = g at *
  clear hg
  have HC := Aside0.mk hc
  clear hc
  have C := Aside0.mk (fun (_ : Unit) => resize_bad (HS.out.arr 1 rfl) HC.out)
  go_wp2_with fail
  refine (C.out ()).mono ?_
  clear C
  rintro e w3 ⟨rfl, hb⟩
  replace HS := Aside0.mk (HS.out.step hb)
  clear hb
  have C := rwrong_any (cntF g.on n : Nat) s w3
  rw [HC.out, if_neg Bool.false_ne_true] at C
  have C := Aside0.mk C
  go_wp2_with fail
  refine C.out.mono ?_
  clear C
  rintro e w4 ⟨rfl, hd⟩
  replace HS := Aside0.mk (HS.out.step hd.below)
  clear hd
  have C := Aside0.mk (awake_any _ (Kd.C_below HT.out HS.out.below))
  go_wp2_with fail
  refine C.out.mono ?_
  clear C
  rintro e w30 ⟨rfl, hb⟩
  replace HS := Aside0.mk (HS.out.step hb)
  clear hb
  go_wp2
  (try rw [Exit.noGoto_ret])
  go_ret
  exact ⟨rfl, HS.out.below⟩
theorem law_long (hT : Tb w) (hr : Kd.C (Kd.int .i64) w A l.length l) {n : Nat} (h1 : 1 ≤ n) (h2 : n ≤ 5000) (h3 : l.length ≤ 300) {S : Nat} (hc : capB (S : Int) = true) (hl : S < cntF (madeG n l l.length).on n) : Calls Tryd.prog 8 #[.agg #[.int .i64 (n : Int), .slice A l.length c], .int .i64 (S : Int)] w fun e w' => e = .returned (.bool true) ∧ Below w.heap.size w w' := by
  have HC := Aside0.mk hc
  have HL := Aside0.mk hl
  clear hc hl
  have HT := Aside0.mk hT
  have HS := Aside0.mk ((Sep.nil w).new_blk #[.int .i64 (n : Int), .slice A l.length c] 66)
  have c0 : (_ : Option Value) = some (.int .i64 (n : Int)) := (blk_cell (HS.out.blk 0 rfl) 0).trans rfl
  have c1 : (_ : Option Value) = some (.slice A l.length c) := (blk_cell (HS.out.blk 0 rfl) 1).trans rfl
  have C := Aside0.mk (made_yes (c := c) (Kd.C_below hr HS.out.below) h1 h2 h3)
  clear hT hr h1 h2 h3
  go_enter Tryd.func8, Tryd.ntmps8
  go_wp2_with fail
  refine C.out.mono ?_
  clear C c0 c1
  rintro e w1 ⟨p, sb, ob, wb, rfl, hs1⟩
  replace HS := Aside0.mk (HS.out.append hs1)
  clear hs1
  obtain ⟨vs, hs⟩ := HS.out.arr 1 rfl
  have C := Aside0.mk (items_any hs (Kd.C_below HT.out HS.out.below))
  clear hs vs
  go_wp2_with fail
  refine C.out.mono ?_
  clear C
  rintro e w2 ⟨A1, c1, rfl, g1, g2, g3, hb⟩
  replace HS := Aside0.mk (HS.out.step hb)
  have G := Aside0.mk (And.intro g1 g2)
  clear g1 g2 g3 hb
  generalize hg : madeG n l l.length = g at *
  clear hg
  have C := Aside0.mk (fun (_ : Unit) => resize_long (HS.out.arr 1 rfl) HC.out HL.out)
  go_wp2_with fail
  refine (C.out ()).mono ?_
  clear C
  rintro e w3 ⟨rfl, hb⟩
  replace HS := Aside0.mk (HS.out.step hb)
  clear hb
  have C := rwrong_any (cntF g.on n : Nat) (S : Int) w3
  rw [HC.out, if_pos rfl, if_pos (Int.ofNat_lt.2 HL.out)] at C
  have C := Aside0.mk C
  go_wp2_with fail
  refine C.out.mono ?_
  clear C
  rintro e w4 ⟨rfl, hd⟩
  replace HS := Aside0.mk (HS.out.step hd.below)
  clear hd
  have C := Aside0.mk (awake_any _ (Kd.C_below HT.out HS.out.below))
  go_wp2_with fail
  refine C.out.mono ?_
  clear C
  rintro e w30 ⟨rfl, hb⟩
  replace HS := Aside0.mk (HS.out.step hb)
  clear hb
  go_wp2
  (try rw [Exit.noGoto_ret])
  go_ret
  exact ⟨rfl, HS.out.below⟩
set_option maxHeartbeats 4000000 in
theorem law_good (hT : Tb w) (hr : Kd.C (Kd.int .i64) w A l.length l) {n : Nat} (h1 : 1 ≤ n) (h2 : n ≤ 5000) (h3 : l.length ≤ 300) {S : Nat} (hc : capB (S : Int) = true) (hl : cntF (madeG n l l.length).on n ≤ S) : Calls Tryd.prog 8 #[.agg #[.int .i64 (n : Int), .slice A l.length c], .int .i64 (S : Int)] w fun e w' => e = .returned (.bool true) ∧ Below w.heap.size w w' := by
  obtain ⟨k, hk, hk1, hk2, _, _⟩ := cap_nat hc
  have HC := Aside0.mk hc
  have HL := Aside0.mk (And.intro hl hk)
  have HK := Aside0.mk (And.intro hk1 hk2)
  have HN := Aside0.mk h2
  clear hc hl hk hk1 hk2
  have HT := Aside0.mk hT
  have HS := Aside0.mk ((Sep.nil w).new_blk #[.int .i64 (n : Int), .slice A l.length c] 66)
  have c0 : (_ : Option Value) = some (.int .i64 (n : Int)) := (blk_cell (HS.out.blk 0 rfl) 0).trans rfl
  have c1 : (_ : Option Value) = some (.slice A l.length c) := (blk_cell (HS.out.blk 0 rfl) 1).trans rfl
  have C := Aside0.mk (made_yes (c := c) (Kd.C_below hr HS.out.below) h1 h2 h3)
  clear hT hr h1 h2 h3
  go_enter Tryd.func8, Tryd.ntmps8
  go_wp2_with fail
  refine C.out.mono ?_
  clear C c0 c1
  rintro e w1 ⟨p, sb, ob, wb, rfl, hs1⟩
  replace HS := Aside0.mk (HS.out.append hs1)
  clear hs1
  obtain ⟨vs, hs⟩ := HS.out.arr 1 rfl
  have C := Aside0.mk (items_any hs (Kd.C_below HT.out HS.out.below))
  clear hs vs
  go_wp2_with fail
  refine C.out.mono ?_
  clear C
  rintro e w2 ⟨A1, c1, rfl, g1, g2, g3, hb⟩
  replace HS := Aside0.mk (HS.out.step hb)
  have G := Aside0.mk (And.intro g1 g2)
  clear g1 g2 g3 hb
  generalize hg : madeG n l l.length = g at *
  clear hg
  have C := resize_yes (HS.out.arr 1 rfl) (Kd.C_below HT.out HS.out.below) HC.out HL.out.2 HL.out.1
  have hlen : (vals (ons g.on g.xs n)).length = cntF g.on n := by unfold vals; rw [List.length_map, ons_length]
  have hcn : cntF g.on n ≤ n := cntF_le _ _
  have HV := Aside0.mk hlen
  have HCN := Aside0.mk hcn
  clear hlen hcn
  generalize vals (ons g.on g.xs n) = v at *
  have CR := rwrong_any (cntF g.on n : Nat) (S : Int)
  rw [HC.out, if_pos rfl, if_neg (by have := HL.out.1; omega)] at CR
  have CR := Aside0.mk CR
  have CP := Aside0.mk (fun w => rplaces_any (n := cntF g.on n) HL.out.2 (show 1 ≤ k from by have := HK.out; omega) HK.out.2 HL.out.1 w)
  generalize cntF g.on n = m at *
  obtain rfl := HV.out
  have C := Aside0.mk C
  have CPL := Aside0.mk (fun (p sb ob wb : Nat) (W : World) h1 h2 => spread_places (w := W) (p := p) (sb := sb) (ob := ob) (wb := wb) (l := v) h1 h2 (show 1 ≤ k from by have := HK.out; omega) HL.out.2 HL.out.1)
  have CIT := Aside0.mk (fun (p sb ob wb : Nat) (W : World) h1 h2 => spread_items (w := W) (p := p) (sb := sb) (ob := ob) (wb := wb) (l := v) h1 h2 (show 1 ≤ k from by have := HK.out; omega) HL.out.2 HL.out.1)
  have HPL := Aside0.mk (pl_len (n := v.length) 0 (show 1 ≤ k from by have := HK.out; omega))
  go_wp2_with fail
  refine C.out.mono ?_
  clear C
  rintro e w3 ⟨q, qs, qo, qw, rfl, hs1⟩
  replace G := Aside0.mk (And.intro G.out.1 (Kd.C_below G.out.2 hs1.below))
  replace HS := Aside0.mk (HS.out.append hs1)
  clear hs1
  go_wp2_with fail
  refine (CR.out _).mono ?_
  clear CR
  rintro e w4 ⟨rfl, hd⟩
  replace G := Aside0.mk (And.intro G.out.1 (Kd.C_below G.out.2 hd.below))
  replace HS := Aside0.mk (HS.out.step hd.below)
  clear hd
  obtain ⟨vs, hs⟩ := HS.out.arr 2 rfl
  have C := Aside0.mk (cap_any hs)
  clear hs vs
  go_wp2_with fail
  refine C.out.mono ?_
  clear C
  rintro e w5 ⟨rfl, rfl⟩
  have C := Aside0.mk (CIT.out q qs qo qw _ (HS.out.arr 2 rfl) (Kd.C_below HT.out HS.out.below))
  go_wp2_with fail
  refine C.out.mono ?_
  clear C
  rintro e w5 ⟨A2, c2, rfl, g1, g2, hb⟩
  replace G := Aside0.mk (And.intro G.out.1 (Kd.C_below G.out.2 hb))
  replace HS := Aside0.mk (HS.out.step hb)
  have C := ints_any g2 g1 G.out.2 G.out.1 (by have := HCN.out; have := HN.out; omega)
  rw [decide_eq_true rfl] at C
  have C := Aside0.mk C
  clear hb g1 g2
  go_wp2_with fail
  refine C.out.mono ?_
  clear C
  rintro e w6 ⟨rfl, hd⟩
  replace HS := Aside0.mk (HS.out.step hd.below)
  clear hd
  have C := Aside0.mk (CPL.out q qs qo qw _ (HS.out.arr 2 rfl) (Kd.C_below HT.out HS.out.below))
  go_wp2_with fail
  refine C.out.mono ?_
  clear C
  rintro e w7 ⟨A3, c3, rfl, g1, g2, hb⟩
  replace HS := Aside0.mk (HS.out.step hb)
  replace G := Aside0.mk (And.intro g1 g2)
  clear hb g1 g2
  go_wp2_with fail
  refine (CP.out _).mono ?_
  clear CP
  rintro e w8 ⟨v8, rfl, hs8⟩
  have G2 := Aside0.mk (Kd.C_below G.out.2 hs8.below)
  obtain ⟨A4, c4, rfl, g3, g4⟩ := G9.own_C (hs8.own 0 rfl)
  rw [HPL.out] at g3 g4
  rw [HPL.out]
  replace HS := Aside0.mk (HS.out.append hs8)
  clear hs8
  have C := ints_any G2.out G.out.1 g4 g3 (by rw [HPL.out]; have := HCN.out; have := HN.out; omega)
  rw [decide_eq_true rfl] at C
  have C := Aside0.mk C
  clear g3 g4
  go_wp2_with fail
  refine C.out.mono ?_
  clear C
  rintro e w9 ⟨rfl, hd⟩
  replace HS := Aside0.mk (HS.out.step hd.below)
  clear hd
  have C := Aside0.mk (awake_any _ (Kd.C_below HT.out HS.out.below))
  go_wp2_with fail
  refine C.out.mono ?_
  clear C
  rintro e w30 ⟨rfl, hb⟩
  replace HS := Aside0.mk (HS.out.step hb)
  clear hb
  go_wp2
  (try rw [Exit.noGoto_ret])
  go_ret
  exact ⟨rfl, HS.out.below⟩
end
theorem law (n : Int) (wn : (Lit.int .i64 n).wf = true) (A : Option Addr) (c : Nat) (l : List Int) {W0 : World} (g : Kd.C (Kd.int .i64) W0 A l.length l) (e : l.length ≤ c) (wl : ∀ x ∈ l, (Lit.int .i64 x).wf = true) (s : Int) (ws : (Lit.int .i64 s).wf = true) (W : World) (hT : Tb W) (hW : W = W0 := by rfl) :
    Calls Tryd.prog 8 #[.agg #[.int .i64 n, .slice A l.length c], .int .i64 s] W fun e w' => e = .returned (.bool true) ∧ Below W.heap.size W w' := by
  subst hW
  by_cases h : 5000 < n ∨ 300 < l.length ∨ n < 1
  · exact law_none hT h s
  · obtain ⟨n, rfl⟩ := Int.eq_ofNat_of_zero_le (show 0 ≤ n by omega)
    cases hc : capB s with
    | false => exact law_bad hT g (by omega) (by omega) (by omega) hc
    | true =>
      obtain ⟨S, rfl⟩ := cap_pos hc
      by_cases hl : cntF (madeG n l l.length).on n ≤ S
      · exact law_good hT g (by omega) (by omega) (by omega) hc hl
      · exact law_long hT g (by omega) (by omega) (by omega) hc (by omega)
end Go.Proofs.YtofkkdjbilklcaaDoor.YR
