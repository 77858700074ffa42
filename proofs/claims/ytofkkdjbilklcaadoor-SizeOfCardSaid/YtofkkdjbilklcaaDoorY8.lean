/- The law SizeOf walked: it returns true; whatever the elements and the numbers. -/
import Derived.Test.YtofkkdjbilklcaaDoorY7
namespace Go.Proofs.YtofkkdjbilklcaaDoor.Y8
open Go.RowKit Go.Shelf Go.Proofs.YtofkkdjbilklcaaDoorW.PrintWords Go.Proofs.YtofkkdjbilklcaaDoorW.PrintLast Go.Proofs.YtofkkdjbilklcaaDoorW.PrintMore G1 G0 Q1 G2 G3 G4 G5 G6 G7 G8 G9 G10 S1 Y1 Y3 Y2 Y4 Y5 Y6 Y7
open L1 (capB forN)
set_option linter.unusedVariables false
set_option linter.unusedSimpArgs false
section
variable {w : World} {A : Option Addr} {c : Nat} {l : List Int}
theorem law_out (hT : Tb w) (a b : Int) (h : 300 < l.length ∧ l.length ≤ 2560 ∨ 3000 < l.length) : Calls Tryd.prog 9 #[.slice A l.length c, .agg #[.int .i64 a, .int .i64 b]] w fun e w' => e = .returned (.bool true) ∧ Below w.heap.size w w' := by
  have HT := Aside0.mk hT
  have HS := Aside0.mk ((Sep.nil w).new_blk #[.int .i64 a, .int .i64 b] 46)
  clear hT
  by_cases h1 : 300 < l.length
  · by_cases h2 : l.length ≤ 2560
    · clear h
      go_enter Tryd.func9, Tryd.ntmps9
      have C := Aside0.mk (awake_any _ (Kd.C_below HT.out HS.out.below))
      go_wp2_with fail
      refine C.out.mono ?_
      clear C
      rintro e w30 ⟨rfl, hb⟩
      replace HS := Aside0.mk (HS.out.step hb)
      clear hb
      go_wp2
      (try rw [Exit.noGoto_ret])
      go_ret
      exact ⟨rfl, HS.out.below⟩
    · have h3 : 3000 < l.length := by omega
      clear h
      go_enter Tryd.func9, Tryd.ntmps9
      have C := Aside0.mk (awake_any _ (Kd.C_below HT.out HS.out.below))
      go_wp2_with fail
      refine C.out.mono ?_
      clear C
      rintro e w30 ⟨rfl, hb⟩
      replace HS := Aside0.mk (HS.out.step hb)
      clear hb
      go_wp2
      (try rw [Exit.noGoto_ret])
      go_ret
      exact ⟨rfl, HS.out.below⟩
  · omega
theorem law_full (hT : Tb w) (a b : Int) (h1 : 2560 < l.length) (h2 : l.length ≤ 3000) : Calls Tryd.prog 9 #[.slice A l.length c, .agg #[.int .i64 a, .int .i64 b]] w fun e w' => e = .returned (.bool true) ∧ Below w.heap.size w w' := by
  have HT := Aside0.mk hT
  have HS := Aside0.mk ((Sep.nil w).new_blk #[.int .i64 a, .int .i64 b] 46)
  have C := Aside0.mk (fun w => of_full (A := A) (c := c) h1 w)
  have CF := Aside0.mk (fun w => rfor_any l.length w)
  rw [show forN (l.length : Int) = 0 by unfold forN; rw [if_neg (by omega), if_pos (by omega)]] at CF
  have q1 : ¬ l.length ≤ 2560 := by omega
  have q2 : ¬ 3000 < l.length := by omega
  have q3 : 300 < l.length := by omega
  clear hT
  go_enter Tryd.func9, Tryd.ntmps9
  go_wp2_with fail
  refine (C.out _).mono ?_
  clear C
  rintro e w1 ⟨rfl, hb⟩
  replace HS := Aside0.mk (HS.out.step hb)
  clear hb
  have LF := Aside0.mk (fun m => Calls.quiet_of (n := m) (w := w1) ((fits_any a b (w1.drewN m) (Kd.C_below HT.out (HS.out.below.trans (pw_below_drewN (Below.refl _ _) m)))).mono fun _ _ ⟨he, hm⟩ => ⟨he, hm.out⟩))
  have LR := Aside0.mk (fun m => Calls.quiet_of (n := m) (w := w1) ((rfits_any a b (w1.drewN m)).mono fun _ _ ⟨he, hm⟩ => ⟨he, hm.out⟩))
  generalize fitsB a b = v at *
  have c0 : (_ : Option Value) = some (.int .i64 a) := (blk_cell (HS.out.blk 0 rfl) 0).trans rfl
  have c1 : (_ : Option Value) = some (.int .i64 b) := (blk_cell (HS.out.blk 0 rfl) 1).trans rfl
  have qv : (v != v) = false := by simp
  go_wp2
  go_quiet ((first | (go_at_call 52; exact LF.out _) | (go_at_call 53; exact LR.out _)))
  clear LF LR c0 c1
  replace HS := Aside0.mk (HS.out.step (pw_below_drewN (Below.refl _ w1) nq))
  generalize w1.drewN nq = w2 at *
  go_wp2_with fail
  refine (CF.out _).mono ?_
  clear CF
  rintro e w3 ⟨rfl, hd⟩
  replace HS := Aside0.mk (HS.out.step hd.below)
  clear hd
  have C := Aside0.mk (awake_any _ (Kd.C_below HT.out HS.out.below))
  go_wp2_with fail
  refine C.out.mono ?_
  clear C
  rintro e w30 ⟨rfl, hb⟩
  replace HS := Aside0.mk (HS.out.step hb)
  clear hb
  go_wp2
  (try rw [Exit.noGoto_ret])
  go_ret
  exact ⟨rfl, HS.out.below⟩
set_option maxHeartbeats 4000000 in
theorem law_good (hT : Tb w) (hr : Kd.C (Kd.int .i64) w A l.length l) (hc : l.length ≤ c) (a b : Int) (h1 : l.length ≤ 300) : Calls Tryd.prog 9 #[.slice A l.length c, .agg #[.int .i64 a, .int .i64 b]] w fun e w' => e = .returned (.bool true) ∧ Below w.heap.size w w' := by
  have HT := Aside0.mk hT
  have HR := Aside0.mk hr
  have HS := Aside0.mk ((Sep.nil w).new_blk #[.int .i64 a, .int .i64 b] 46)
  obtain ⟨hcap, hle, h0⟩ := for_small l.length (by omega)
  obtain ⟨S, hS⟩ := Int.eq_ofNat_of_zero_le h0
  rw [hS] at hcap hle
  obtain ⟨k, hk, hk1, hk2, _, _⟩ := cap_nat hcap
  have C := Aside0.mk (of_yes (c := c) (Kd.C_below hr HS.out.below) (by omega) hS hk)
  have CF := Aside0.mk (fun w => rfor_any l.length w)
  rw [hS] at CF
  have CR := Aside0.mk (fun w => rplaces_any (n := l.length) hk (by omega) hk2 (by omega) w)
  have CPL := Aside0.mk (fun (p sb ob wb : Nat) (W : World) h1 h2 => spread_places (w := W) (p := p) (sb := sb) (ob := ob) (wb := wb) (l := l) h1 h2 (show 1 ≤ k by omega) hk (by omega))
  have CIT := Aside0.mk (fun (p sb ob wb : Nat) (W : World) h1 h2 => spread_items (w := W) (p := p) (sb := sb) (ob := ob) (wb := wb) (l := l) h1 h2 (show 1 ≤ k by omega) hk (by omega))
  have HL := Aside0.mk (pl_len (n := l.length) 0 (show 1 ≤ k by omega))
  have qS : ((S : Int) == 0) = false := beq_eq_false_iff_ne.2 (by omega)
  have q1 : ¬ 300 < l.length := by omega
  have q2 : ¬ 3000 < l.length := by omega
  clear hT hr hcap hle h0 hS hk hk1 hk2
  go_enter Tryd.func9, Tryd.ntmps9
  go_wp2_with fail
  refine C.out.mono ?_
  clear C
  rintro e w1 ⟨p, sb, ob, wb, rfl, hs1⟩
  replace HS := Aside0.mk (HS.out.append hs1)
  clear hs1
  have LF := Aside0.mk (fun m => Calls.quiet_of (n := m) (w := w1) ((fits_any a b (w1.drewN m) (Kd.C_below HT.out (HS.out.below.trans (pw_below_drewN (Below.refl _ _) m)))).mono fun _ _ ⟨he, hm⟩ => ⟨he, hm.out⟩))
  have LR := Aside0.mk (fun m => Calls.quiet_of (n := m) (w := w1) ((rfits_any a b (w1.drewN m)).mono fun _ _ ⟨he, hm⟩ => ⟨he, hm.out⟩))
  generalize fitsB a b = v at *
  have c0 : (_ : Option Value) = some (.int .i64 a) := (blk_cell (HS.out.blk 0 rfl) 0).trans rfl
  have c1 : (_ : Option Value) = some (.int .i64 b) := (blk_cell (HS.out.blk 0 rfl) 1).trans rfl
  have qv : (v != v) = false := by simp
  go_wp2
  go_quiet ((first | (go_at_call 52; exact LF.out _) | (go_at_call 53; exact LR.out _)))
  clear LF LR c0 c1
  replace HS := Aside0.mk (HS.out.step (pw_below_drewN (Below.refl _ w1) nq))
  generalize w1.drewN nq = w2 at *
  go_wp2_with fail
  refine (CF.out _).mono ?_
  clear CF
  rintro e w3 ⟨rfl, hd⟩
  replace HS := Aside0.mk (HS.out.step hd.below)
  clear hd
  obtain ⟨vs, hs⟩ := HS.out.arr 1 rfl
  have C := Aside0.mk (cap_any hs)
  clear hs vs
  go_wp2_with fail
  refine C.out.mono ?_
  clear C
  rintro e w4 ⟨rfl, rfl⟩
  have C := Aside0.mk (CIT.out p sb ob wb _ (HS.out.arr 1 rfl) (Kd.C_below HT.out HS.out.below))
  go_wp2_with fail
  refine C.out.mono ?_
  clear C
  rintro e w4 ⟨A1, c1, rfl, g1, g2, hb⟩
  replace HS := Aside0.mk (HS.out.step hb)
  have C := ints_any (l := l) (m := l) g2 g1 (Kd.C_below HR.out HS.out.below) hc (by omega)
  rw [decide_eq_true rfl] at C
  have C := Aside0.mk C
  clear hb g1 g2
  go_wp2_with fail
  refine C.out.mono ?_
  clear C
  rintro e w5 ⟨rfl, hd⟩
  replace HS := Aside0.mk (HS.out.step hd.below)
  clear hd
  have C := Aside0.mk (CPL.out p sb ob wb _ (HS.out.arr 1 rfl) (Kd.C_below HT.out HS.out.below))
  go_wp2_with fail
  refine C.out.mono ?_
  clear C
  rintro e w6 ⟨A2, c2, rfl, g1, g2, hb⟩
  replace HS := Aside0.mk (HS.out.step hb)
  have G := Aside0.mk (And.intro g1 g2)
  clear hb g1 g2
  go_wp2_with fail
  refine (CR.out _).mono ?_
  clear CR
  rintro e w7 ⟨v7, rfl, hs7⟩
  have G2 := Aside0.mk (Kd.C_below G.out.2 hs7.below)
  obtain ⟨A3, c3, rfl, g3, g4⟩ := G9.own_C (hs7.own 0 rfl)
  rw [HL.out] at g3 g4
  rw [HL.out]
  replace HS := Aside0.mk (HS.out.append hs7)
  clear hs7
  have C := ints_any G2.out G.out.1 g4 g3 (by rw [HL.out]; omega)
  rw [decide_eq_true rfl] at C
  have C := Aside0.mk C
  clear g3 g4
  go_wp2_with fail
  refine C.out.mono ?_
  clear C
  rintro e w8 ⟨rfl, hd⟩
  replace HS := Aside0.mk (HS.out.step hd.below)
  clear hd
  have C := Aside0.mk (awake_any _ (Kd.C_below HT.out HS.out.below))
  go_wp2_with fail
  refine C.out.mono ?_
  clear C
  rintro e w30 ⟨rfl, hb⟩
  replace HS := Aside0.mk (HS.out.step hb)
  clear hb
  go_wp2
  (try rw [Exit.noGoto_ret])
  go_ret
  exact ⟨rfl, HS.out.below⟩
end
theorem law (A : Option Addr) (c : Nat) (l : List Int) {W0 : World} (g : Kd.C (Kd.int .i64) W0 A l.length l) (e : l.length ≤ c) (y : l.length * 8 ≤ 140737488351232) (wl : ∀ x ∈ l, (Lit.int .i64 x).wf = true) (a : Int) (wa : (Lit.int .i64 a).wf = true) (b : Int) (wb : (Lit.int .i64 b).wf = true) (W : World) (hT : Tb W) (hW : W = W0 := by rfl) :
    Calls Tryd.prog 9 #[.slice A l.length c, .agg #[.int .i64 a, .int .i64 b]] W fun e w' => e = .returned (.bool true) ∧ Below W.heap.size W w' := by
  subst hW
  by_cases h1 : l.length ≤ 300
  · exact law_good hT g e a b h1
  · by_cases h2 : 2560 < l.length ∧ l.length ≤ 3000
    · exact law_full hT a b h2.1 h2.2
    · exact law_out hT a b (by omega)
end Go.Proofs.YtofkkdjbilklcaaDoor.Y8
