/- The law RebalOpens walked: it returns true, whatever the array, the segment and the slot. -/
import Derived.Test.YtofkkdjbilklcaaDoorZA
import Derived.Test.YtofkkdjbilklcaaDoorZO
import Derived.BigQuiet
namespace Go.Proofs.YtofkkdjbilklcaaDoor.ZV
open Go.RowKit Go.Shelf Go.Proofs.YtofkkdjbilklcaaDoorW.PrintWords Go.Proofs.YtofkkdjbilklcaaDoorW.PrintLast Go.Proofs.YtofkkdjbilklcaaDoorW.PrintMore G1 G0 Q1 G2 G3 G4 G5 G6 G7 G8 G9 G10 S1 Y1 Y3 Y2 Z0 Z1 Z2 Z3 Z4 ZR ZM ZP ZA ZN ZO
set_option linter.unusedVariables false
set_option linter.unusedSimpArgs false
theorem perm5 {a b c d e : Ob} : [a, b, c, d, e].Perm [e, d, b, c, a] := List.Perm.map (fun i => [a, b, c, d, e].getD i a) (show [0, 1, 2, 3, 4].Perm [4, 3, 1, 2, 0] by decide)
theorem perm5b {a b c d e : Ob} : [a, b, c, d, e].Perm [d, a, b, c, e] := List.Perm.map (fun i => [a, b, c, d, e].getD i a) (show [0, 1, 2, 3, 4].Perm [3, 0, 1, 2, 4] by decide)
theorem G7_len (s : Int) (l : List Int) : (G7 s l).xs.length = nOf s := (mk7_is (n := nOf s) (f := onF (nOf s) l l.length) (nOf s) (Nat.le_refl _)).1
theorem openR_few {n sg : Nat} {bh : Int} {g : Gap} (hs : sg ≤ 511) : (openR n sg bh g).r.ms.length ≤ 10000 := by
  unfold openR
  split
  · exact Nat.zero_le _
  · rename_i hb
    split
    · exact Nat.zero_le _
    · unfold openN
      split
      · rename_i i hu
        obtain ⟨h1, h2, _⟩ := upF_some hu
        dsimp only
        rw [shiftR_few]
        omega
      · split
        · rename_i i hd
          dsimp only
          rw [shiftL_few]
          omega
        · exact Nat.zero_le _
section
variable {σ : Type} {T : σ → List Mv → List Ob} {w0 w : World} {n p sb ob wb : Nat} {g : Gap} {tv : Value} {st : σ} {L : List Ob}
theorem open_any (hTl : Tell7 w0 n g tv T) (hS : Sep w0 w (T st [] ++ (S1.Arr p sb ob wb n g :: L))) (hl : g.xs.length = n) {sg : Nat} (hw : winB n (sg : Int) 1 = true) (bh : Int) :
    Calls Tryd.prog 17 #[.pointer (some ⟨p, 0, none⟩), .int .i64 (sg : Int), .int .i64 bh, tv] w fun e w' => e = .returned (.tuple #[.int .i64 (openR n sg bh g).k, .int .i64 (openR n sg bh g).e]) ∧ ∃ s', Sep w0 w' (T s' (openR n sg bh g).r.ms ++ (S1.Arr p sb ob wb n (openR n sg bh g).r.g :: L)) := by
  by_cases hbad : bh ≠ -1 ∧ (bh < 8 * (sg : Int) ∨ 8 * (sg : Int) + 8 ≤ bh)
  · exact open_arg hS hw hbad (tell_val hTl)
  · by_cases h1 : bh = -1
    · subst h1
      exact open_first hTl hS hl hw
    · obtain ⟨bn, rfl⟩ := Int.eq_ofNat_of_zero_le (show 0 ≤ bh by omega)
      cases hf : g.on bn with
      | false => exact open_none hS hw (by omega) (by omega) hf (tell_val hTl)
      | true => exact open_behind hTl hS hl hw (by omega) (by omega) hf
end
section
variable {w : World} {A : Option Addr} {c : Nat} {l : List Int} {s : Int}
set_option maxRecDepth 100000 in
set_option maxHeartbeats 2000000 in
theorem law_no (hT : Tb w) (hr : Kd.C (Kd.int .i64) w A l.length l) (hl : l.length ≤ 9223372036854775807) (hs : -9223372036854775808 ≤ s ∧ s ≤ 9223372036854775807) {a : Int} (bh : Int) (hw : winB (nOf s) a 1 = false) :
    Calls Tryd.prog 3 #[.agg #[.int .i64 s, .slice A l.length c], .int .i64 a, .int .i64 bh] w fun e w' => e = .returned (.bool true) ∧ Below w.heap.size w w' := by
  have HT := Aside0.mk hT
  have HS := Aside0.mk ((Sep.nil w).new_blk #[.int .i64 s, .slice A l.length c] 24)
  have C := Aside0.mk (made_any (c := c) (Kd.C_below hr HS.out.below) hl hs)
  have c0 : (_ : Option Value) = some (.int .i64 s) := (blk_cell (HS.out.blk 0 rfl) 0).trans rfl
  have c1 : (_ : Option Value) = some (.slice A l.length c) := (blk_cell (HS.out.blk 0 rfl) 1).trans rfl
  have hn := (nOf_le s).2.1
  have hlg := G7_len s l
  generalize G7 s l = g at *
  generalize nOf s = n at *
  have HN := Aside0.mk (And.intro hn hlg)
  clear hT hr hl hs hlg
  go_enter Tryd.func3, Tryd.ntmps3
  go_wp2_with fail
  refine C.out.mono ?_
  clear C c0 c1
  rintro e w1 ⟨p, sb, ob, wb, r, lb, rfl, hs1⟩
  have HS : Aside0 (Sep w (w1.alloc (.cells #[.slice none 0 0] 29)) (TM w1.heap.size (.slice none 0 0) [] ++ (S1.Arr p sb ob wb n g :: [RefO r lb n g, S1.Blk w.heap.size #[.int .i64 s, .slice A l.length c] 24]))) := ⟨by
    have h := ((HS.out.append hs1).new_blk #[.slice none 0 0] 29).push (Below.refl _ _) (OwnM (.slice none 0 0) []) (World.ownsRow_nil _ _ _ _) (fun k hk => by simp [OwnM, Value.ownBlock] at hk)
    exact h.perm perm5⟩
  clear hs1
  generalize hz : w1.heap.size = z at *
  have C := Aside0.mk (open_no (s := .slice none 0 0) (T := TM z) (tv := fnM1 z) HS.out hw bh (.inr ⟨_, _, rfl⟩))
  go_wp2_with fail
  refine C.out.mono ?_
  clear C
  rintro e w3 ⟨rfl, v1, hb1, hs1⟩
  obtain ⟨A1, c1, e1⟩ := ownM_shape (hs1.get 0 rfl)
  subst e1
  have HS := Aside0.mk hs1
  clear hs1 hb1
  have href : RefAt w3 r lb n _ := HS.out.get 3 rfl
  have c0 := href.c0
  have RA := fun W => right_any n (by omega) a 1 W
  simp only [hw] at RA
  have RA := Aside0.mk RA
  clear href
  go_wp2_with fail
  refine (RA.out w3).mono ?_
  clear RA c0
  rintro e w4 ⟨rfl, rfl⟩
  clear hw
  have e1 : (_ : Option Value) = some (.slice A1 0 c1) := (blk_cell (HS.out.blk 1 rfl) 0).trans rfl
  have C := Aside0.mk (agree_any (HS.out.arr 2 rfl) (HS.out.get 3 rfl) (Kd.C_below HT.out HS.out.below) (by omega))
  go_wp2_with fail
  refine C.out.mono ?_
  clear C
  rintro e w9 ⟨rfl, hb⟩
  replace HS := Aside0.mk (HS.out.step hb)
  clear hb
  have C := Aside0.mk (awake_any _ (Kd.C_below HT.out HS.out.below))
  go_wp2_with fail
  refine C.out.mono ?_
  clear C
  rintro e w30 ⟨rfl, hb⟩
  replace HS := Aside0.mk (HS.out.step hb)
  clear hb
  go_wp2
  (try rw [Exit.noGoto_ret])
  go_ret
  exact ⟨rfl, HS.out.below⟩
set_option maxRecDepth 100000 in
set_option maxHeartbeats 2000000 in
theorem law_yes (hT : Tb w) (hr : Kd.C (Kd.int .i64) w A l.length l) (hl : l.length ≤ 9223372036854775807) (hs : -9223372036854775808 ≤ s ∧ s ≤ 9223372036854775807) {sg : Nat} (bh : Int) (hw : winB (nOf s) (sg : Int) 1 = true) (hsg : sg ≤ 511) :
    Calls Tryd.prog 3 #[.agg #[.int .i64 s, .slice A l.length c], .int .i64 (sg : Int), .int .i64 bh] w fun e w' => e = .returned (.bool true) ∧ Below w.heap.size w w' := by
  have HT := Aside0.mk hT
  have HS := Aside0.mk ((Sep.nil w).new_blk #[.int .i64 s, .slice A l.length c] 24)
  have C := Aside0.mk (made_any (c := c) (Kd.C_below hr HS.out.below) hl hs)
  have c0 : (_ : Option Value) = some (.int .i64 s) := (blk_cell (HS.out.blk 0 rfl) 0).trans rfl
  have c1 : (_ : Option Value) = some (.slice A l.length c) := (blk_cell (HS.out.blk 0 rfl) 1).trans rfl
  have hn := (nOf_le s).2.1
  have hlg := G7_len s l
  generalize G7 s l = g at *
  generalize nOf s = n at *
  have HN := Aside0.mk (And.intro hn hlg)
  clear hT hr hl hs hlg
  go_enter Tryd.func3, Tryd.ntmps3
  go_wp2_with fail
  refine C.out.mono ?_
  clear C c0 c1
  rintro e w1 ⟨p, sb, ob, wb, r, lb, rfl, hs1⟩
  have HS : Aside0 (Sep w (w1.alloc (.cells #[.slice none 0 0] 29)) (TM w1.heap.size (.slice none 0 0) [] ++ (S1.Arr p sb ob wb n g :: [RefO r lb n g, S1.Blk w.heap.size #[.int .i64 s, .slice A l.length c] 24]))) := ⟨by
    have h := ((HS.out.append hs1).new_blk #[.slice none 0 0] 29).push (Below.refl _ _) (OwnM (.slice none 0 0) []) (World.ownsRow_nil _ _ _ _) (fun k hk => by simp [OwnM, Value.ownBlock] at hk)
    exact h.perm perm5⟩
  clear hs1
  generalize hz : w1.heap.size = z at *
  have C := Aside0.mk (open_any (st := .slice none 0 0) (T := TM z) (tell_M1 w n g z) HS.out HN.out.2 hw bh)
  have R := Aside0.mk (fun (W : World) (L : List Ob) (h : Sep w W (RefO r lb n g :: L)) => ropen_any h HN.out.2 hw bh)
  have HFW : Aside0 ((openR n sg bh g).r.ms.length ≤ 1000000) := ⟨Nat.le_trans (openR_few hsg) (by omega)⟩
  generalize openR n sg bh g = E at *
  obtain ⟨kk, ee, Eg, ms⟩ := E
  dsimp only at C R HFW
  go_wp2_with fail
  refine C.out.mono ?_
  clear C
  rintro e w3 ⟨rfl, v1, hs1⟩
  replace HS := Aside0.mk hs1
  obtain ⟨A1, c1, e1⟩ := ownM_shape (hs1.get 0 rfl)
  obtain ⟨n1, hn1⟩ : ∃ n1, ms.length = n1 := ⟨_, rfl⟩
  rw [hn1] at e1
  subst e1
  have HN1 := Aside0.mk hn1
  clear hs1 hn1 hz hsg
  have href : RefAt w3 r lb n _ := HS.out.get 3 rfl
  have c0 := href.c0
  have RA := fun W => right_any n (by omega) (sg : Int) 1 W
  simp only [hw] at RA
  have RA := Aside0.mk RA
  clear href
  go_wp2_with fail
  refine (RA.out w3).mono ?_
  clear RA c0
  rintro e w4 ⟨rfl, rfl⟩
  clear hw
  have C := Aside0.mk (R.out _ _ (HS.out.perm perm5b))
  go_wp2_with fail
  refine C.out.mono ?_
  clear C R
  rintro e w5 ⟨v2, rfl, hs1⟩
  replace HS := Aside0.mk hs1
  obtain ⟨A2, c2, e2⟩ := ownM_shape (hs1.get 1 rfl)
  rw [HN1.out] at e2
  subst e2
  clear hs1
  have e1 : (_ : Option Value) = some (.slice A1 n1 c1) := (blk_cell (HS.out.blk 3 rfl) 0).trans rfl
  have C := Aside0.mk (moves_any (HS.out.get 2 rfl) (HS.out.get 1 rfl) HFW.out)
  go_wp2_with fail
  refine C.out.mono ?_
  clear C e1
  rintro e w6 ⟨rfl, hd⟩
  replace HS := Aside0.mk (HS.out.step hd.below)
  clear hd
  have C := Aside0.mk (agree_any (HS.out.arr 4 rfl) (HS.out.get 0 rfl) (Kd.C_below HT.out HS.out.below) (by omega))
  go_wp2_with fail
  refine C.out.mono ?_
  clear C
  rintro e w9 ⟨rfl, hb⟩
  replace HS := Aside0.mk (HS.out.step hb)
  clear hb
  have C := Aside0.mk (awake_any _ (Kd.C_below HT.out HS.out.below))
  go_wp2_with fail
  refine C.out.mono ?_
  clear C
  rintro e w30 ⟨rfl, hb⟩
  replace HS := Aside0.mk (HS.out.step hb)
  clear hb
  go_wp2
  (try rw [Exit.noGoto_ret])
  go_ret
  exact ⟨rfl, HS.out.below⟩
end
theorem win_nat {n : Nat} {a k : Int} (hw : winB n a k = true) : ∃ f m : Nat, a = (f : Int) ∧ k = (m : Int) ∧ 1 ≤ m ∧ 8 * f + 8 * m ≤ n ∧ f + m ≤ 512 := by
  obtain ⟨h1, h2, h3, h4, h5⟩ := of_decide_eq_true hw
  obtain ⟨f, rfl⟩ := Int.eq_ofNat_of_zero_le h3
  obtain ⟨m, rfl⟩ := Int.eq_ofNat_of_zero_le (show 0 ≤ k by omega)
  exact ⟨f, m, rfl, rfl, by omega, by omega, by omega⟩
theorem wf_le {x : Int} (h : (Lit.int .i64 x).wf = true) : -9223372036854775808 ≤ x ∧ x ≤ 9223372036854775807 := by
  simp [Lit.wf, IntKind.min, IntKind.max, IntKind.signed, IntKind.bits] at h
  omega
theorem law (s : Int) (ws : (Lit.int .i64 s).wf = true) (A : Option Addr) (c : Nat) (l : List Int) {W0 : World} (g : Kd.C (Kd.int .i64) W0 A l.length l) (e : l.length ≤ c) (wl : ∀ x ∈ l, (Lit.int .i64 x).wf = true) (hl : l.length ≤ 9223372036854775807) (a : Int) (wa : (Lit.int .i64 a).wf = true) (k : Int) (wk : (Lit.int .i64 k).wf = true) (W : World) (hT : Tb W) (hW : W = W0 := by rfl) :
    Calls Tryd.prog 3 #[.agg #[.int .i64 s, .slice A l.length c], .int .i64 a, .int .i64 k] W fun e w' => e = .returned (.bool true) ∧ Below W.heap.size W w' := by
  subst hW
  have hs := wf_le ws
  cases hw : winB (nOf s) a 1 with
  | false => exact law_no hT g hl hs k hw
  | true =>
    obtain ⟨f, m, rfl, h0, h1, h2, h3⟩ := win_nat hw
    exact law_yes hT g hl hs k hw (by omega)
end Go.Proofs.YtofkkdjbilklcaaDoor.ZV
