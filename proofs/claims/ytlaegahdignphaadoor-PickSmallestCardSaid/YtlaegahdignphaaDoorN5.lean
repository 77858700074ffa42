/- The law PickPicks walked: it returns true; whatever the counts and the segment. -/
import Derived.Test.YtlaegahdignphaaDoorN4
namespace Go.Proofs.YtlaegahdignphaaDoor.N5
open Go.RowKit Go.Shelf Go.Proofs.YtlaegahdignphaaDoorW.PrintWords Go.Proofs.YtlaegahdignphaaDoorW.PrintLast Go.Proofs.YtlaegahdignphaaDoorW.PrintMore Q1 Q2 L1 L3 S1 M1 M2 M3 M4 M5 M6 M7 M8 M9 N1 N2 N3 N4 SL SG
set_option linter.unusedVariables false
set_option linter.unusedSimpArgs false

theorem wrg_ck {l : List Int} {s : Int} (h : ckE l ≠ 0) : wrg l s = ckE l := by unfold wrg; rw [if_pos h]
theorem wrg_out {l : List Int} {s : Int} (h : ckE l = 0) (h2 : s < 0 ∨ (l.length : Int) ≤ s) : wrg l s = 10 := by unfold wrg; rw [if_neg (by rw [h]; decide), if_pos h2]
theorem wrg_in {l : List Int} {s : Int} (h : ckE l = 0) (h2 : ¬ (s < 0 ∨ (l.length : Int) ≤ s)) : wrg l s = 0 := by unfold wrg; rw [if_neg (by rw [h]; decide), if_neg h2]
section
variable {w : World} {A : Option Addr} {c : Nat} {l : List Int}
theorem law_long (hT : Tb w) (s : Int) (h : 600 < l.length) : Calls Tryd.prog 9 #[.slice A l.length c, .int .i64 s] w fun e w' => e = .returned (.bool true) ∧ Below w.heap.size w w' := by
  have HT := Aside0.mk hT
  have HS := Aside0.mk (Sep.nil w)
  clear hT
  go_enter Tryd.func9, Tryd.ntmps9
  have C := Aside0.mk (N4.awake_any _ (Kd.C_below HT.out HS.out.below))
  go_wp2_with fail
  refine C.out.mono ?_
  clear C
  rintro e w9 ⟨rfl, hb⟩
  replace HS := Aside0.mk (HS.out.step hb)
  clear hb
  go_wp2
  go_ret
  exact ⟨rfl, HS.out.below⟩
set_option maxHeartbeats 1000000 in
/-- Counts that are wrong. -/
theorem law_wrong (hr : Kd.C (Kd.int .i64) w A l.length l) (hlc : l.length ≤ c) (hT : Tb w) (s : Int) (h : l.length ≤ 600) (hw : ckE l ≠ 0) : Calls Tryd.prog 9 #[.slice A l.length c, .int .i64 s] w fun e w' => e = .returned (.bool true) ∧ Below w.heap.size w w' := by
  have hz : wrg l s ≠ 0 := by rw [wrg_ck hw]; exact hw
  have C1 := Aside0.mk (level_bad (c := c) hr s hz)
  have C2 := Aside0.mk (fun W hb => pick_bad (w := W) (c := c) (Kd.C_below hr hb) s hz)
  rw [wrg_ck hw] at C1 C2
  have q1 : (ckE l == 0) = false := beq_eq_false_iff_ne.2 hw
  have q2 : (ckE l != 0) = true := bne_iff_ne.2 hw
  have q3 : (ckE l != ckE l) = false := by simp
  have q4 : (ckE l == ckE l) = true := by simp
  have q5 : eqB (0, 0, 0, 0) (0, 0, 0, 0) = true := decide_eq_true rfl
  have HT := Aside0.mk hT
  have HR := Aside0.mk hr
  have HLC := Aside0.mk hlc
  have HS := Aside0.mk (Sep.nil w)
  have heq := fun w => eqS w
  have hgd := guardS
  clear hz hw
  generalize hce : ckE l = ce at *
  clear hr hT hlc
  go_enter Tryd.func9, Tryd.ntmps9
  go_wp2_with fail
  refine C1.out.mono ?_
  clear C1
  rintro e w1 ⟨rfl, hb⟩
  replace HS := Aside0.mk (HS.out.step hb)
  clear hb
  have C := Aside0.mk (C2.out _ (HS.out.below))
  (try unfold step0 at C)
  go_wp2_with fail
  refine C.out.mono ?_
  clear C C2
  rintro e w2 ⟨rfl, hb⟩
  replace HS := Aside0.mk ((HS.out.step hb).new_blk #[.int .i64 0, .int .i64 0, .int .i64 0, .int .i64 0] 41)
  clear hb
  have C := Aside0.mk (refCheck_any (Kd.C_below HR.out HS.out.below) HLC.out (by omega))
  rw [hce] at C
  go_wp2_with fail
  refine C.out.mono ?_
  clear C
  rintro e w3 ⟨rfl, hd⟩
  replace HS := Aside0.mk (HS.out.step hd.below)
  clear hd
  have C := Aside0.mk (check_any (c := c) (Kd.C_below HR.out HS.out.below))
  rw [hce] at C
  go_wp2_with fail
  refine C.out.mono ?_
  clear C
  rintro e w4 ⟨rfl, hd⟩
  replace HS := Aside0.mk (HS.out.step hd.below)
  clear hd
  have c0 : (_ : Option Value) = some (.int .i64 0) := (blk_cell (HS.out.blk 0 rfl) 0).trans rfl
  have c1 : (_ : Option Value) = some (.int .i64 0) := (blk_cell (HS.out.blk 0 rfl) 1).trans rfl
  have c2 : (_ : Option Value) = some (.int .i64 0) := (blk_cell (HS.out.blk 0 rfl) 2).trans rfl
  have c3 : (_ : Option Value) = some (.int .i64 0) := (blk_cell (HS.out.blk 0 rfl) 3).trans rfl
  clear hce
  have C := Aside0.mk (N4.awake_any _ (Kd.C_below HT.out HS.out.below))
  go_wp2_with fail
  refine C.out.mono ?_
  clear C
  rintro e w9 ⟨rfl, hb⟩
  replace HS := Aside0.mk (HS.out.step hb)
  clear hb
  go_wp2
  go_ret
  exact ⟨rfl, HS.out.below⟩
set_option maxHeartbeats 1000000 in
/-- A segment that is none. -/
theorem law_out (hr : Kd.C (Kd.int .i64) w A l.length l) (hlc : l.length ≤ c) (hT : Tb w) (s : Int) (h : l.length ≤ 600) (hw : ckE l = 0) (hs : s < 0 ∨ (l.length : Int) ≤ s) : Calls Tryd.prog 9 #[.slice A l.length c, .int .i64 s] w fun e w' => e = .returned (.bool true) ∧ Below w.heap.size w w' := by
  have hz : wrg l s ≠ 0 := by rw [wrg_out hw hs]; decide
  have C1 := Aside0.mk (level_bad (c := c) hr s hz)
  have C2 := Aside0.mk (fun W hb => pick_bad (w := W) (c := c) (Kd.C_below hr hb) s hz)
  rw [wrg_out hw hs] at C1 C2
  have q5 : eqB (0, 0, 0, 0) (0, 0, 0, 0) = true := decide_eq_true rfl
  have HT := Aside0.mk hT
  have HR := Aside0.mk hr
  have HLC := Aside0.mk hlc
  have HS := Aside0.mk (Sep.nil w)
  have heq := fun w => eqS w
  have hgd := guardS
  have HW := Aside0.mk hw
  clear hz hw
  by_cases hs0 : s < 0
  · clear hs
    clear hr hT hlc
    go_enter Tryd.func9, Tryd.ntmps9
    go_wp2_with fail
    refine C1.out.mono ?_
    clear C1
    rintro e w1 ⟨rfl, hb⟩
    replace HS := Aside0.mk (HS.out.step hb)
    clear hb
    have C := Aside0.mk (C2.out _ (HS.out.below))
    (try unfold step0 at C)
    go_wp2_with fail
    refine C.out.mono ?_
    clear C C2
    rintro e w2 ⟨rfl, hb⟩
    replace HS := Aside0.mk ((HS.out.step hb).new_blk #[.int .i64 0, .int .i64 0, .int .i64 0, .int .i64 0] 41)
    clear hb
    have C := Aside0.mk (refCheck_any (Kd.C_below HR.out HS.out.below) HLC.out (by omega))
    rw [HW.out] at C
    go_wp2_with fail
    refine C.out.mono ?_
    clear C
    rintro e w3 ⟨rfl, hd⟩
    replace HS := Aside0.mk (HS.out.step hd.below)
    clear hd
    have C := Aside0.mk (check_any (c := c) (Kd.C_below HR.out HS.out.below))
    rw [HW.out] at C
    go_wp2_with fail
    refine C.out.mono ?_
    clear C
    rintro e w4 ⟨rfl, hd⟩
    replace HS := Aside0.mk (HS.out.step hd.below)
    clear hd
    have c0 : (_ : Option Value) = some (.int .i64 0) := (blk_cell (HS.out.blk 0 rfl) 0).trans rfl
    have c1 : (_ : Option Value) = some (.int .i64 0) := (blk_cell (HS.out.blk 0 rfl) 1).trans rfl
    have c2 : (_ : Option Value) = some (.int .i64 0) := (blk_cell (HS.out.blk 0 rfl) 2).trans rfl
    have c3 : (_ : Option Value) = some (.int .i64 0) := (blk_cell (HS.out.blk 0 rfl) 3).trans rfl
    have C := Aside0.mk (N4.awake_any _ (Kd.C_below HT.out HS.out.below))
    go_wp2_with fail
    refine C.out.mono ?_
    clear C
    rintro e w9 ⟨rfl, hb⟩
    replace HS := Aside0.mk (HS.out.step hb)
    clear hb
    go_wp2
    go_ret
    exact ⟨rfl, HS.out.below⟩
  · have hs1 : (l.length : Int) ≤ s := by omega
    clear hs
    clear hr hT hlc
    go_enter Tryd.func9, Tryd.ntmps9
    go_wp2_with fail
    refine C1.out.mono ?_
    clear C1
    rintro e w1 ⟨rfl, hb⟩
    replace HS := Aside0.mk (HS.out.step hb)
    clear hb
    have C := Aside0.mk (C2.out _ (HS.out.below))
    (try unfold step0 at C)
    go_wp2_with fail
    refine C.out.mono ?_
    clear C C2
    rintro e w2 ⟨rfl, hb⟩
    replace HS := Aside0.mk ((HS.out.step hb).new_blk #[.int .i64 0, .int .i64 0, .int .i64 0, .int .i64 0] 41)
    clear hb
    have C := Aside0.mk (refCheck_any (Kd.C_below HR.out HS.out.below) HLC.out (by omega))
    rw [HW.out] at C
    go_wp2_with fail
    refine C.out.mono ?_
    clear C
    rintro e w3 ⟨rfl, hd⟩
    replace HS := Aside0.mk (HS.out.step hd.below)
    clear hd
    have C := Aside0.mk (check_any (c := c) (Kd.C_below HR.out HS.out.below))
    rw [HW.out] at C
    go_wp2_with fail
    refine C.out.mono ?_
    clear C
    rintro e w4 ⟨rfl, hd⟩
    replace HS := Aside0.mk (HS.out.step hd.below)
    clear hd
    have c0 : (_ : Option Value) = some (.int .i64 0) := (blk_cell (HS.out.blk 0 rfl) 0).trans rfl
    have c1 : (_ : Option Value) = some (.int .i64 0) := (blk_cell (HS.out.blk 0 rfl) 1).trans rfl
    have c2 : (_ : Option Value) = some (.int .i64 0) := (blk_cell (HS.out.blk 0 rfl) 2).trans rfl
    have c3 : (_ : Option Value) = some (.int .i64 0) := (blk_cell (HS.out.blk 0 rfl) 3).trans rfl
    have C := Aside0.mk (N4.awake_any _ (Kd.C_below HT.out HS.out.below))
    go_wp2_with fail
    refine C.out.mono ?_
    clear C
    rintro e w9 ⟨rfl, hb⟩
    replace HS := Aside0.mk (HS.out.step hb)
    clear hb
    go_wp2
    go_ret
    exact ⟨rfl, HS.out.below⟩
set_option maxHeartbeats 2000000 in
/-- Counts and a segment that are right. -/
theorem law_good (hr : Kd.C (Kd.int .i64) w A l.length l) (hlc : l.length ≤ c) (hT : Tb w) (s : Nat) (h : l.length ≤ 600) (hw : ckE l = 0) (hs : s < l.length) : Calls Tryd.prog 9 #[.slice A l.length c, .int .i64 s] w fun e w' => e = .returned (.bool true) ∧ Below w.heap.size w w' := by
  have hz : wrg l s = 0 := wrg_in hw (by omega)
  have C1 := Aside0.mk (level_good (c := c) hr hlc hT hz)
  have C2 := Aside0.mk (fun W (hb : Below w.heap.size w W) => pick_good (w := W) (c := c) (Kd.C_below hr hb) hlc (Kd.C_below hT hb) hz)
  have C3 := Aside0.mk (fun W (hb : Below w.heap.size w W) => refPick_any (w := W) (c := c) (Kd.C_below hr hb) hlc hz)
  have C4 := Aside0.mk (fun W (hb : Below w.heap.size w W) => refLevel_any (w := W) (c := c) (Kd.C_below hr hb) hlc hz)
  have HT := Aside0.mk hT
  have HR := Aside0.mk hr
  have HLC := Aside0.mk hlc
  have HS := Aside0.mk (Sep.nil w)
  have heq := fun w => eqS w
  have hgd := guardS
  have HW := Aside0.mk hw
  have hs2 : ¬ (s : Int) < 0 := by omega
  have hs3 : ¬ (l.length : Int) ≤ (s : Int) := by omega
  clear hz hw
  generalize lvlI l s = lv at *
  unfold pickV at C2 C3
  generalize hpn : pickN l s = pn at *
  clear hpn
  obtain ⟨p1, p2, p3, p4, p5⟩ := pn
  have q5 : eqB (p1, p2, p3, p4) (p1, p2, p3, p4) = true := decide_eq_true rfl
  have q6 : (lv == lv) = true := by simp
  have q7 : (p5 == p5) = true := by simp
  (try dsimp only at C2 C3)
  clear hr hT hlc
  go_enter Tryd.func9, Tryd.ntmps9
  go_wp2_with fail
  refine C1.out.mono ?_
  clear C1
  rintro e w1 ⟨rfl, hb⟩
  replace HS := Aside0.mk (HS.out.step hb)
  clear hb
  have C := Aside0.mk (C2.out _ (HS.out.below))
  (try unfold step0 at C)
  go_wp2_with fail
  refine C.out.mono ?_
  clear C C2
  rintro e w2 ⟨rfl, hb⟩
  replace HS := Aside0.mk ((HS.out.step hb).new_blk #[.int .i64 p1, .int .i64 p2, .int .i64 p3, .int .i64 p4] 41)
  clear hb
  have C := Aside0.mk (refCheck_any (Kd.C_below HR.out HS.out.below) HLC.out (by omega))
  rw [HW.out] at C
  go_wp2_with fail
  refine C.out.mono ?_
  clear C
  rintro e w3 ⟨rfl, hd⟩
  replace HS := Aside0.mk (HS.out.step hd.below)
  clear hd
  have C := Aside0.mk (check_any (c := c) (Kd.C_below HR.out HS.out.below))
  rw [HW.out] at C
  go_wp2_with fail
  refine C.out.mono ?_
  clear C
  rintro e w4 ⟨rfl, hd⟩
  replace HS := Aside0.mk (HS.out.step hd.below)
  clear hd
  have c0 : (_ : Option Value) = some (.int .i64 p1) := (blk_cell (HS.out.blk 0 rfl) 0).trans rfl
  have c1 : (_ : Option Value) = some (.int .i64 p2) := (blk_cell (HS.out.blk 0 rfl) 1).trans rfl
  have c2 : (_ : Option Value) = some (.int .i64 p3) := (blk_cell (HS.out.blk 0 rfl) 2).trans rfl
  have c3 : (_ : Option Value) = some (.int .i64 p4) := (blk_cell (HS.out.blk 0 rfl) 3).trans rfl
  have C := Aside0.mk (C3.out _ HS.out.below)
  go_wp2_with fail
  refine C.out.mono ?_
  clear C C3 c0 c1 c2 c3
  rintro e w5 ⟨rfl, hb⟩
  replace HS := Aside0.mk ((HS.out.step hb).new_blk #[.int .i64 p1, .int .i64 p2, .int .i64 p3, .int .i64 p4] 41)
  clear hb
  have C := Aside0.mk (C4.out _ HS.out.below)
  go_wp2_with fail
  refine C.out.mono ?_
  clear C C4
  rintro e w6 ⟨rfl, hd⟩
  replace HS := Aside0.mk (HS.out.step hd.below)
  clear hd
  have c0 : (_ : Option Value) = some (.int .i64 p1) := (blk_cell (HS.out.blk 0 rfl) 0).trans rfl
  have c1 : (_ : Option Value) = some (.int .i64 p2) := (blk_cell (HS.out.blk 0 rfl) 1).trans rfl
  have c2 : (_ : Option Value) = some (.int .i64 p3) := (blk_cell (HS.out.blk 0 rfl) 2).trans rfl
  have c3 : (_ : Option Value) = some (.int .i64 p4) := (blk_cell (HS.out.blk 0 rfl) 3).trans rfl
  have d0 : (_ : Option Value) = some (.int .i64 p1) := (blk_cell (HS.out.blk 1 rfl) 0).trans rfl
  have d1 : (_ : Option Value) = some (.int .i64 p2) := (blk_cell (HS.out.blk 1 rfl) 1).trans rfl
  have d2 : (_ : Option Value) = some (.int .i64 p3) := (blk_cell (HS.out.blk 1 rfl) 2).trans rfl
  have d3 : (_ : Option Value) = some (.int .i64 p4) := (blk_cell (HS.out.blk 1 rfl) 3).trans rfl
  have C := Aside0.mk (N4.awake_any _ (Kd.C_below HT.out HS.out.below))
  go_wp2_with fail
  refine C.out.mono ?_
  clear C
  rintro e w9 ⟨rfl, hb⟩
  replace HS := Aside0.mk (HS.out.step hb)
  clear hb
  go_wp2
  go_ret
  exact ⟨rfl, HS.out.below⟩
end
theorem law (A : Option Addr) (c : Nat) (l : List Int) {W0 : World} (g : Kd.C (Kd.int .i64) W0 A l.length l) (e : l.length ≤ c) (y : l.length * 8 ≤ 140737488351232) (wl : ∀ x ∈ l, (Lit.int .i64 x).wf = true) (s : Int) (ws : (Lit.int .i64 s).wf = true) (W : World) (hT : Tb W) (hW : W = W0 := by rfl) :
    Calls Tryd.prog 9 #[.slice A l.length c, .int .i64 s] W fun e w' => e = .returned (.bool true) ∧ Below W.heap.size W w' := by
  subst hW
  by_cases h1 : 600 < l.length
  · exact law_long hT s h1
  · by_cases h2 : ckE l = 0
    · by_cases h3 : s < 0 ∨ (l.length : Int) ≤ s
      · exact law_out g e hT s (by omega) h2 h3
      · obtain ⟨t, rfl⟩ := Int.eq_ofNat_of_zero_le (show 0 ≤ s by omega)
        exact law_good g e hT t (by omega) h2 (by omega)
    · exact law_wrong g e hT s (by omega) h2
end Go.Proofs.YtlaegahdignphaaDoor.N5
