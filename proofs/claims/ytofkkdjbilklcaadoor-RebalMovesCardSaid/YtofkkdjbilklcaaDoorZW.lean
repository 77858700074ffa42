/- The law RebalMoves walked: it returns true, whatever the array and the window. -/
import Derived.Test.YtofkkdjbilklcaaDoorZA
import Derived.Test.YtofkkdjbilklcaaDoorZN
import Derived.BigQuiet
namespace Go.Proofs.YtofkkdjbilklcaaDoor.ZW
open Go.RowKit Go.Shelf Go.Proofs.YtofkkdjbilklcaaDoorW.PrintWords Go.Proofs.YtofkkdjbilklcaaDoorW.PrintLast Go.Proofs.YtofkkdjbilklcaaDoorW.PrintMore G1 G0 Q1 G2 G3 G4 G5 G6 G7 G8 G9 G10 S1 Y1 Y3 Y2 Z0 Z1 Z2 Z3 Z4 ZR ZM ZP ZA ZN
set_option linter.unusedVariables false
set_option linter.unusedSimpArgs false
theorem perm6 {a b c d e f : Ob} : [a, b, c, d, e, f].Perm [f, e, c, d, a, b] := List.Perm.map (fun i => [a, b, c, d, e, f].getD i a) (show [0, 1, 2, 3, 4, 5].Perm [5, 4, 2, 3, 0, 1] by decide)
theorem perm6b {a b c d e f : Ob} : [a, b, c, d, e, f].Perm [d, a, b, c, e, f] := List.Perm.map (fun i => [a, b, c, d, e, f].getD i a) (show [0, 1, 2, 3, 4, 5].Perm [3, 0, 1, 2, 4, 5] by decide)
theorem G7_len (s : Int) (l : List Int) : (G7 s l).xs.length = nOf s := (mk7_is (n := nOf s) (f := onF (nOf s) l l.length) (nOf s) (Nat.le_refl _)).1
theorem leftR_few {n f k : Nat} {g : Gap} (hl : g.xs.length = n) (hk : 8 * f + 8 * k ≤ n) : (leftR n f k g).ms.length ≤ 8 * k := by
  have h := pack_inv (b := 8 * f) hl (8 * k) hk
  exact Nat.le_trans h.few h.le
theorem evenR_few {n f k : Nat} {g : Gap} (hl : g.xs.length = n) (hk : 8 * f + 8 * k ≤ n) : (evenR n f k g).ms.length ≤ 16 * k := by
  have h := pack_inv (b := 8 * f) hl (8 * k) hk
  have h1 := h.few
  have h2 := h.le
  unfold evenR
  refine Nat.le_trans (even_few _) ?_
  dsimp only
  omega
section
variable {w : World} {A : Option Addr} {c : Nat} {l : List Int} {s : Int}
set_option maxRecDepth 100000 in
set_option maxHeartbeats 2000000 in
theorem law_left_no (hT : Tb w) (hr : Kd.C (Kd.int .i64) w A l.length l) (hl : l.length ≤ 9223372036854775807) (hs : -9223372036854775808 ≤ s ∧ s ≤ 9223372036854775807) {a k : Int} (hw : winB (nOf s) a k = false) :
    Calls Tryd.prog 4 #[.agg #[.int .i64 s, .slice A l.length c], .agg #[.int .i64 a, .int .i64 k], .bool true] w fun e w' => e = .returned (.bool true) ∧ Below w.heap.size w w' := by
  have HT := Aside0.mk hT
  have HS := Aside0.mk (((Sep.nil w).new_blk #[.int .i64 s, .slice A l.length c] 24).new_blk #[.int .i64 a, .int .i64 k] 46)
  simp only [World.size_alloc] at HS
  have C := Aside0.mk (made_any (c := c) (Kd.C_below hr HS.out.below) hl hs)
  have c0 : (_ : Option Value) = some (.int .i64 s) := (blk_cell (HS.out.blk 0 rfl) 0).trans rfl
  have c1 : (_ : Option Value) = some (.slice A l.length c) := (blk_cell (HS.out.blk 0 rfl) 1).trans rfl
  have hn := (nOf_le s).2.1
  have hlg := G7_len s l
  generalize G7 s l = g at *
  generalize nOf s = n at *
  have HN := Aside0.mk (And.intro hn hlg)
  clear hT hr hl hs hlg
  go_enter Tryd.func4, Tryd.ntmps4
  go_wp2_with fail
  refine C.out.mono ?_
  clear C c0 c1
  rintro e w1 ⟨p, sb, ob, wb, r, lb, rfl, hs1⟩
  have HS : Aside0 (Sep w (w1.alloc (.cells #[.slice none 0 0] 29)) (TM w1.heap.size (.slice none 0 0) [] ++ (S1.Arr p sb ob wb n g :: [RefO r lb n g, S1.Blk w.heap.size #[.int .i64 s, .slice A l.length c] 24, S1.Blk (w.heap.size + 1) #[.int .i64 a, .int .i64 k] 46]))) := ⟨by
    have h := ((HS.out.append hs1).new_blk #[.slice none 0 0] 29).push (Below.refl _ _) (OwnM (.slice none 0 0) []) (World.ownsRow_nil _ _ _ _) (fun k hk => by simp [OwnM, Value.ownBlock] at hk)
    exact h.perm perm6⟩
  clear hs1
  generalize hz : w1.heap.size = z at *
  have d0 : (_ : Option Value) = some (.int .i64 a) := (blk_cell (HS.out.blk 5 rfl) 0).trans rfl
  have d1 : (_ : Option Value) = some (.int .i64 k) := (blk_cell (HS.out.blk 5 rfl) 1).trans rfl
  have C := Aside0.mk (left_no (HS.out.arr 2 rfl) hw (fnM2 z) (.inr ⟨_, _, rfl⟩))
  go_wp2_with fail
  refine C.out.mono ?_
  clear C d0 d1
  rintro e w3 ⟨rfl, rfl⟩
  generalize w1.alloc (.cells #[.slice none 0 0] 29) = w3 at *
  have href : RefAt w3 r lb n _ := HS.out.get 3 rfl
  have c0 := href.c0
  have d0 : (_ : Option Value) = some (.int .i64 a) := (blk_cell (HS.out.blk 5 rfl) 0).trans rfl
  have d1 : (_ : Option Value) = some (.int .i64 k) := (blk_cell (HS.out.blk 5 rfl) 1).trans rfl
  have RA := fun W => right_any n (by omega) a k W
  simp only [hw] at RA
  have LR := Aside0.mk (fun m => Calls.quiet_of_same (n := m) (w := w3) ((RA (w3.drewN m)).mono fun _ _ ⟨he, hm⟩ => ⟨he, hm.symm⟩))
  clear RA
  clear href
  go_wp2
  go_quiet ((go_at_call 18; exact LR.out _))
  clear LR c0
  replace HS := Aside0.mk (HS.out.step (pw_below_drewN (Below.refl _ w3) nq))
  generalize w3.drewN nq = w4 at *
  clear hw
  have e1 : (_ : Option Value) = some (.slice none 0 0) := (blk_cell (HS.out.blk 1 rfl) 0).trans rfl
  have C := Aside0.mk (agree_any (HS.out.arr 2 rfl) (HS.out.get 3 rfl) (Kd.C_below HT.out HS.out.below) (by omega))
  go_wp2_with fail
  refine C.out.mono ?_
  clear C
  rintro e w9 ⟨rfl, hb⟩
  replace HS := Aside0.mk (HS.out.step hb)
  clear hb
  have C := Aside0.mk (awake_any _ (Kd.C_below HT.out HS.out.below))
  go_wp2_with fail
  refine C.out.mono ?_
  clear C
  rintro e w30 ⟨rfl, hb⟩
  replace HS := Aside0.mk (HS.out.step hb)
  clear hb
  go_wp2
  (try rw [Exit.noGoto_ret])
  go_ret
  exact ⟨rfl, HS.out.below⟩
set_option maxRecDepth 100000 in
set_option maxHeartbeats 2000000 in
theorem law_even_no (hT : Tb w) (hr : Kd.C (Kd.int .i64) w A l.length l) (hl : l.length ≤ 9223372036854775807) (hs : -9223372036854775808 ≤ s ∧ s ≤ 9223372036854775807) {a k : Int} (hw : winB (nOf s) a k = false) :
    Calls Tryd.prog 4 #[.agg #[.int .i64 s, .slice A l.length c], .agg #[.int .i64 a, .int .i64 k], .bool false] w fun e w' => e = .returned (.bool true) ∧ Below w.heap.size w w' := by
  have HT := Aside0.mk hT
  have HS := Aside0.mk (((Sep.nil w).new_blk #[.int .i64 s, .slice A l.length c] 24).new_blk #[.int .i64 a, .int .i64 k] 46)
  simp only [World.size_alloc] at HS
  have C := Aside0.mk (made_any (c := c) (Kd.C_below hr HS.out.below) hl hs)
  have c0 : (_ : Option Value) = some (.int .i64 s) := (blk_cell (HS.out.blk 0 rfl) 0).trans rfl
  have c1 : (_ : Option Value) = some (.slice A l.length c) := (blk_cell (HS.out.blk 0 rfl) 1).trans rfl
  have hn := (nOf_le s).2.1
  have hlg := G7_len s l
  generalize G7 s l = g at *
  generalize nOf s = n at *
  have HN := Aside0.mk (And.intro hn hlg)
  clear hT hr hl hs hlg
  go_enter Tryd.func4, Tryd.ntmps4
  go_wp2_with fail
  refine C.out.mono ?_
  clear C c0 c1
  rintro e w1 ⟨p, sb, ob, wb, r, lb, rfl, hs1⟩
  have HS : Aside0 (Sep w (w1.alloc (.cells #[.slice none 0 0] 29)) (TM w1.heap.size (.slice none 0 0) [] ++ (S1.Arr p sb ob wb n g :: [RefO r lb n g, S1.Blk w.heap.size #[.int .i64 s, .slice A l.length c] 24, S1.Blk (w.heap.size + 1) #[.int .i64 a, .int .i64 k] 46]))) := ⟨by
    have h := ((HS.out.append hs1).new_blk #[.slice none 0 0] 29).push (Below.refl _ _) (OwnM (.slice none 0 0) []) (World.ownsRow_nil _ _ _ _) (fun k hk => by simp [OwnM, Value.ownBlock] at hk)
    exact h.perm perm6⟩
  clear hs1
  generalize hz : w1.heap.size = z at *
  have d0 : (_ : Option Value) = some (.int .i64 a) := (blk_cell (HS.out.blk 5 rfl) 0).trans rfl
  have d1 : (_ : Option Value) = some (.int .i64 k) := (blk_cell (HS.out.blk 5 rfl) 1).trans rfl
  have C := Aside0.mk (even_no (HS.out.arr 2 rfl) hw (fnM2 z) (.inr ⟨_, _, rfl⟩))
  go_wp2_with fail
  refine C.out.mono ?_
  clear C d0 d1
  rintro e w3 ⟨rfl, rfl⟩
  generalize w1.alloc (.cells #[.slice none 0 0] 29) = w3 at *
  have href : RefAt w3 r lb n _ := HS.out.get 3 rfl
  have c0 := href.c0
  have d0 : (_ : Option Value) = some (.int .i64 a) := (blk_cell (HS.out.blk 5 rfl) 0).trans rfl
  have d1 : (_ : Option Value) = some (.int .i64 k) := (blk_cell (HS.out.blk 5 rfl) 1).trans rfl
  have RA := fun W => right_any n (by omega) a k W
  simp only [hw] at RA
  have LR := Aside0.mk (fun m => Calls.quiet_of_same (n := m) (w := w3) ((RA (w3.drewN m)).mono fun _ _ ⟨he, hm⟩ => ⟨he, hm.symm⟩))
  clear RA
  clear href
  go_wp2
  go_quiet ((go_at_call 18; exact LR.out _))
  clear LR c0
  replace HS := Aside0.mk (HS.out.step (pw_below_drewN (Below.refl _ w3) nq))
  generalize w3.drewN nq = w4 at *
  clear hw
  have e1 : (_ : Option Value) = some (.slice none 0 0) := (blk_cell (HS.out.blk 1 rfl) 0).trans rfl
  have C := Aside0.mk (agree_any (HS.out.arr 2 rfl) (HS.out.get 3 rfl) (Kd.C_below HT.out HS.out.below) (by omega))
  go_wp2_with fail
  refine C.out.mono ?_
  clear C
  rintro e w9 ⟨rfl, hb⟩
  replace HS := Aside0.mk (HS.out.step hb)
  clear hb
  have C := Aside0.mk (awake_any _ (Kd.C_below HT.out HS.out.below))
  go_wp2_with fail
  refine C.out.mono ?_
  clear C
  rintro e w30 ⟨rfl, hb⟩
  replace HS := Aside0.mk (HS.out.step hb)
  clear hb
  go_wp2
  (try rw [Exit.noGoto_ret])
  go_ret
  exact ⟨rfl, HS.out.below⟩
set_option maxRecDepth 100000 in
set_option maxHeartbeats 2000000 in
theorem law_left_yes (hT : Tb w) (hr : Kd.C (Kd.int .i64) w A l.length l) (hl : l.length ≤ 9223372036854775807) (hs : -9223372036854775808 ≤ s ∧ s ≤ 9223372036854775807) {f k : Nat} (hw : winB (nOf s) (f : Int) (k : Int) = true) (h1 : 1 ≤ k) (hk : 8 * f + 8 * k ≤ nOf s) (hf : f + k ≤ 512) :
    Calls Tryd.prog 4 #[.agg #[.int .i64 s, .slice A l.length c], .agg #[.int .i64 (f : Int), .int .i64 (k : Int)], .bool true] w fun e w' => e = .returned (.bool true) ∧ Below w.heap.size w w' := by
  have HT := Aside0.mk hT
  have HS := Aside0.mk (((Sep.nil w).new_blk #[.int .i64 s, .slice A l.length c] 24).new_blk #[.int .i64 (f : Int), .int .i64 (k : Int)] 46)
  simp only [World.size_alloc] at HS
  have C := Aside0.mk (made_any (c := c) (Kd.C_below hr HS.out.below) hl hs)
  have c0 : (_ : Option Value) = some (.int .i64 s) := (blk_cell (HS.out.blk 0 rfl) 0).trans rfl
  have c1 : (_ : Option Value) = some (.slice A l.length c) := (blk_cell (HS.out.blk 0 rfl) 1).trans rfl
  have hn := (nOf_le s).2.1
  have hlg := G7_len s l
  generalize G7 s l = g at *
  generalize nOf s = n at *
  have HN := Aside0.mk (And.intro hn hlg)
  clear hT hr hl hs hlg
  go_enter Tryd.func4, Tryd.ntmps4
  go_wp2_with fail
  refine C.out.mono ?_
  clear C c0 c1
  rintro e w1 ⟨p, sb, ob, wb, r, lb, rfl, hs1⟩
  have HS : Aside0 (Sep w (w1.alloc (.cells #[.slice none 0 0] 29)) (TM w1.heap.size (.slice none 0 0) [] ++ (S1.Arr p sb ob wb n g :: [RefO r lb n g, S1.Blk w.heap.size #[.int .i64 s, .slice A l.length c] 24, S1.Blk (w.heap.size + 1) #[.int .i64 (f : Int), .int .i64 (k : Int)] 46]))) := ⟨by
    have h := ((HS.out.append hs1).new_blk #[.slice none 0 0] 29).push (Below.refl _ _) (OwnM (.slice none 0 0) []) (World.ownsRow_nil _ _ _ _) (fun k hk => by simp [OwnM, Value.ownBlock] at hk)
    exact h.perm perm6⟩
  clear hs1
  generalize hz : w1.heap.size = z at *
  have d0 : (_ : Option Value) = some (.int .i64 (f : Int)) := (blk_cell (HS.out.blk 5 rfl) 0).trans rfl
  have d1 : (_ : Option Value) = some (.int .i64 (k : Int)) := (blk_cell (HS.out.blk 5 rfl) 1).trans rfl
  have C := Aside0.mk (left_any (s := .slice none 0 0) (T := TM z) (tell_M2 w n g z) HT.out HS.out HN.out.2 hk hf h1)
  have few := leftR_few (f := f) (k := k) HN.out.2 hk
  have HK := Aside0.mk (And.intro h1 (And.intro hk hf))
  clear h1 hk hf
  go_wp2_with fail
  refine C.out.mono ?_
  clear C d0 d1
  rintro e w3 ⟨rfl, v1, hs1⟩
  replace HS := Aside0.mk hs1
  obtain ⟨A1, c1, e1⟩ := ownM_shape (hs1.get 0 rfl)
  obtain ⟨n1, hn1⟩ : ∃ n1, (leftR n f k g).ms.length = n1 := ⟨_, rfl⟩
  have HFW : Aside0 ((leftR n f k g).ms.length ≤ 1000000) := ⟨by have := HK.out; omega⟩
  have HN1 := Aside0.mk hn1
  rw [hn1] at e1 ⊢
  subst e1
  clear hs1 hn1 few hz
  have href : RefAt w3 r lb n _ := HS.out.get 3 rfl
  have c0 := href.c0
  have d0 : (_ : Option Value) = some (.int .i64 (f : Int)) := (blk_cell (HS.out.blk 5 rfl) 0).trans rfl
  have d1 : (_ : Option Value) = some (.int .i64 (k : Int)) := (blk_cell (HS.out.blk 5 rfl) 1).trans rfl
  have RA := fun W => right_any n (by omega) (f : Int) (k : Int) W
  simp only [hw] at RA
  have LR := Aside0.mk (fun m => Calls.quiet_of_same (n := m) (w := w3) ((RA (w3.drewN m)).mono fun _ _ ⟨he, hm⟩ => ⟨he, hm.symm⟩))
  clear RA
  clear href
  go_wp2
  go_quiet ((go_at_call 18; exact LR.out _))
  clear LR c0
  replace HS := Aside0.mk (HS.out.step (pw_below_drewN (Below.refl _ w3) nq))
  generalize w3.drewN nq = w4 at *
  clear hw d0 d1
  have d0 : (_ : Option Value) = some (.int .i64 (f : Int)) := (blk_cell (HS.out.blk 5 rfl) 0).trans rfl
  have d1 : (_ : Option Value) = some (.int .i64 (k : Int)) := (blk_cell (HS.out.blk 5 rfl) 1).trans rfl
  have C := rleft_any (HS.out.perm perm6b) HN.out.2 HK.out.2.1 HK.out.2.2 
  have C := Aside0.mk C
  go_wp2_with fail
  refine C.out.mono ?_
  clear C d0 d1
  rintro e w5 ⟨v2, rfl, hs1⟩
  replace HS := Aside0.mk hs1
  obtain ⟨A2, c2, e2⟩ := ownM_shape (hs1.get 1 rfl)
  rw [HN1.out] at e2
  subst e2
  clear hs1
  generalize leftR n f k g = E at *
  have e1 : (_ : Option Value) = some (.slice A1 n1 c1) := (blk_cell (HS.out.blk 3 rfl) 0).trans rfl
  have C := Aside0.mk (moves_any (HS.out.get 2 rfl) (HS.out.get 1 rfl) HFW.out)
  go_wp2_with fail
  refine C.out.mono ?_
  clear C e1
  rintro e w6 ⟨rfl, hd⟩
  replace HS := Aside0.mk (HS.out.step hd.below)
  clear hd
  have C := Aside0.mk (agree_any (HS.out.arr 4 rfl) (HS.out.get 0 rfl) (Kd.C_below HT.out HS.out.below) (by omega))
  go_wp2_with fail
  refine C.out.mono ?_
  clear C
  rintro e w9 ⟨rfl, hb⟩
  replace HS := Aside0.mk (HS.out.step hb)
  clear hb
  have C := Aside0.mk (awake_any _ (Kd.C_below HT.out HS.out.below))
  go_wp2_with fail
  refine C.out.mono ?_
  clear C
  rintro e w30 ⟨rfl, hb⟩
  replace HS := Aside0.mk (HS.out.step hb)
  clear hb
  go_wp2
  (try rw [Exit.noGoto_ret])
  go_ret
  exact ⟨rfl, HS.out.below⟩
set_option maxRecDepth 100000 in
set_option maxHeartbeats 2000000 in
theorem law_even_yes (hT : Tb w) (hr : Kd.C (Kd.int .i64) w A l.length l) (hl : l.length ≤ 9223372036854775807) (hs : -9223372036854775808 ≤ s ∧ s ≤ 9223372036854775807) {f k : Nat} (hw : winB (nOf s) (f : Int) (k : Int) = true) (h1 : 1 ≤ k) (hk : 8 * f + 8 * k ≤ nOf s) (hf : f + k ≤ 512) :
    Calls Tryd.prog 4 #[.agg #[.int .i64 s, .slice A l.length c], .agg #[.int .i64 (f : Int), .int .i64 (k : Int)], .bool false] w fun e w' => e = .returned (.bool true) ∧ Below w.heap.size w w' := by
  have HT := Aside0.mk hT
  have HS := Aside0.mk (((Sep.nil w).new_blk #[.int .i64 s, .slice A l.length c] 24).new_blk #[.int .i64 (f : Int), .int .i64 (k : Int)] 46)
  simp only [World.size_alloc] at HS
  have C := Aside0.mk (made_any (c := c) (Kd.C_below hr HS.out.below) hl hs)
  have c0 : (_ : Option Value) = some (.int .i64 s) := (blk_cell (HS.out.blk 0 rfl) 0).trans rfl
  have c1 : (_ : Option Value) = some (.slice A l.length c) := (blk_cell (HS.out.blk 0 rfl) 1).trans rfl
  have hn := (nOf_le s).2.1
  have hlg := G7_len s l
  generalize G7 s l = g at *
  generalize nOf s = n at *
  have HN := Aside0.mk (And.intro hn hlg)
  clear hT hr hl hs hlg
  go_enter Tryd.func4, Tryd.ntmps4
  go_wp2_with fail
  refine C.out.mono ?_
  clear C c0 c1
  rintro e w1 ⟨p, sb, ob, wb, r, lb, rfl, hs1⟩
  have HS : Aside0 (Sep w (w1.alloc (.cells #[.slice none 0 0] 29)) (TM w1.heap.size (.slice none 0 0) [] ++ (S1.Arr p sb ob wb n g :: [RefO r lb n g, S1.Blk w.heap.size #[.int .i64 s, .slice A l.length c] 24, S1.Blk (w.heap.size + 1) #[.int .i64 (f : Int), .int .i64 (k : Int)] 46]))) := ⟨by
    have h := ((HS.out.append hs1).new_blk #[.slice none 0 0] 29).push (Below.refl _ _) (OwnM (.slice none 0 0) []) (World.ownsRow_nil _ _ _ _) (fun k hk => by simp [OwnM, Value.ownBlock] at hk)
    exact h.perm perm6⟩
  clear hs1
  generalize hz : w1.heap.size = z at *
  have d0 : (_ : Option Value) = some (.int .i64 (f : Int)) := (blk_cell (HS.out.blk 5 rfl) 0).trans rfl
  have d1 : (_ : Option Value) = some (.int .i64 (k : Int)) := (blk_cell (HS.out.blk 5 rfl) 1).trans rfl
  have C := Aside0.mk (even_any (s := .slice none 0 0) (T := TM z) (tell_M2 w n g z) HT.out HS.out HN.out.2 hk hf h1)
  have few := evenR_few (f := f) (k := k) HN.out.2 hk
  have HK := Aside0.mk (And.intro h1 (And.intro hk hf))
  clear h1 hk hf
  go_wp2_with fail
  refine C.out.mono ?_
  clear C d0 d1
  rintro e w3 ⟨rfl, v1, hs1⟩
  replace HS := Aside0.mk hs1
  obtain ⟨A1, c1, e1⟩ := ownM_shape (hs1.get 0 rfl)
  obtain ⟨n1, hn1⟩ : ∃ n1, (evenR n f k g).ms.length = n1 := ⟨_, rfl⟩
  have HFW : Aside0 ((evenR n f k g).ms.length ≤ 1000000) := ⟨by have := HK.out; omega⟩
  have HN1 := Aside0.mk hn1
  rw [hn1] at e1 ⊢
  subst e1
  clear hs1 hn1 few hz
  have href : RefAt w3 r lb n _ := HS.out.get 3 rfl
  have c0 := href.c0
  have d0 : (_ : Option Value) = some (.int .i64 (f : Int)) := (blk_cell (HS.out.blk 5 rfl) 0).trans rfl
  have d1 : (_ : Option Value) = some (.int .i64 (k : Int)) := (blk_cell (HS.out.blk 5 rfl) 1).trans rfl
  have RA := fun W => right_any n (by omega) (f : Int) (k : Int) W
  simp only [hw] at RA
  have LR := Aside0.mk (fun m => Calls.quiet_of_same (n := m) (w := w3) ((RA (w3.drewN m)).mono fun _ _ ⟨he, hm⟩ => ⟨he, hm.symm⟩))
  clear RA
  clear href
  go_wp2
  go_quiet ((go_at_call 18; exact LR.out _))
  clear LR c0
  replace HS := Aside0.mk (HS.out.step (pw_below_drewN (Below.refl _ w3) nq))
  generalize w3.drewN nq = w4 at *
  clear hw d0 d1
  have d0 : (_ : Option Value) = some (.int .i64 (f : Int)) := (blk_cell (HS.out.blk 5 rfl) 0).trans rfl
  have d1 : (_ : Option Value) = some (.int .i64 (k : Int)) := (blk_cell (HS.out.blk 5 rfl) 1).trans rfl
  have C := reven_any (HS.out.perm perm6b) HN.out.2 HK.out.2.1 HK.out.2.2 HK.out.1
  have C := Aside0.mk C
  go_wp2_with fail
  refine C.out.mono ?_
  clear C d0 d1
  rintro e w5 ⟨v2, rfl, hs1⟩
  replace HS := Aside0.mk hs1
  obtain ⟨A2, c2, e2⟩ := ownM_shape (hs1.get 1 rfl)
  rw [HN1.out] at e2
  subst e2
  clear hs1
  generalize evenR n f k g = E at *
  have e1 : (_ : Option Value) = some (.slice A1 n1 c1) := (blk_cell (HS.out.blk 3 rfl) 0).trans rfl
  have C := Aside0.mk (moves_any (HS.out.get 2 rfl) (HS.out.get 1 rfl) HFW.out)
  go_wp2_with fail
  refine C.out.mono ?_
  clear C e1
  rintro e w6 ⟨rfl, hd⟩
  replace HS := Aside0.mk (HS.out.step hd.below)
  clear hd
  have C := Aside0.mk (agree_any (HS.out.arr 4 rfl) (HS.out.get 0 rfl) (Kd.C_below HT.out HS.out.below) (by omega))
  go_wp2_with fail
  refine C.out.mono ?_
  clear C
  rintro e w9 ⟨rfl, hb⟩
  replace HS := Aside0.mk (HS.out.step hb)
  clear hb
  have C := Aside0.mk (awake_any _ (Kd.C_below HT.out HS.out.below))
  go_wp2_with fail
  refine C.out.mono ?_
  clear C
  rintro e w30 ⟨rfl, hb⟩
  replace HS := Aside0.mk (HS.out.step hb)
  clear hb
  go_wp2
  (try rw [Exit.noGoto_ret])
  go_ret
  exact ⟨rfl, HS.out.below⟩
end
theorem win_nat {n : Nat} {a k : Int} (hw : winB n a k = true) : ∃ f m : Nat, a = (f : Int) ∧ k = (m : Int) ∧ 1 ≤ m ∧ 8 * f + 8 * m ≤ n ∧ f + m ≤ 512 := by
  obtain ⟨h1, h2, h3, h4, h5⟩ := of_decide_eq_true hw
  obtain ⟨f, rfl⟩ := Int.eq_ofNat_of_zero_le h3
  obtain ⟨m, rfl⟩ := Int.eq_ofNat_of_zero_le (show 0 ≤ k by omega)
  exact ⟨f, m, rfl, rfl, by omega, by omega, by omega⟩
theorem wf_le {x : Int} (h : (Lit.int .i64 x).wf = true) : -9223372036854775808 ≤ x ∧ x ≤ 9223372036854775807 := by
  simp [Lit.wf, IntKind.min, IntKind.max, IntKind.signed, IntKind.bits] at h
  omega
theorem law (s : Int) (ws : (Lit.int .i64 s).wf = true) (A : Option Addr) (c : Nat) (l : List Int) {W0 : World} (g : Kd.C (Kd.int .i64) W0 A l.length l) (e : l.length ≤ c) (wl : ∀ x ∈ l, (Lit.int .i64 x).wf = true) (hl : l.length ≤ 9223372036854775807) (a : Int) (wa : (Lit.int .i64 a).wf = true) (k : Int) (wk : (Lit.int .i64 k).wf = true) (b : Bool) (W : World) (hT : Tb W) (hW : W = W0 := by rfl) :
    Calls Tryd.prog 4 #[.agg #[.int .i64 s, .slice A l.length c], .agg #[.int .i64 a, .int .i64 k], .bool b] W fun e w' => e = .returned (.bool true) ∧ Below W.heap.size W w' := by
  subst hW
  have hs := wf_le ws
  cases hw : winB (nOf s) a k with
  | false =>
    cases b with
    | true => exact law_left_no hT g hl hs hw
    | false => exact law_even_no hT g hl hs hw
  | true =>
    obtain ⟨f, m, rfl, rfl, h1, h2, h3⟩ := win_nat hw
    cases b with
    | true => exact law_left_yes hT g hl hs hw h1 h2 h3
    | false => exact law_even_yes hT g hl hs hw h1 h2 h3
end Go.Proofs.YtofkkdjbilklcaaDoor.ZW
