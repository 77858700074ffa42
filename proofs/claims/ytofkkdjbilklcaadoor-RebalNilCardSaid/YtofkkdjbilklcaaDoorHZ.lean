/- Windows of an array of texts packed and spread, nobody told: walked. -/
import Derived.Test.YtofkkdjbilklcaaDoorHA
import Derived.Test.YtofkkdjbilklcaaDoorZB
namespace Go.Proofs.YtofkkdjbilklcaaDoor.HS
open Go.RowKit Go.Shelf Go.Proofs.YtofkkdjbilklcaaDoorW.PrintWords Go.Proofs.YtofkkdjbilklcaaDoorW.PrintLast Go.Proofs.YtofkkdjbilklcaaDoorW.PrintMore G1 G0 Q1 G2 G3 G4 G5 G6 G7 G8 G9 G10 S1 Y1 Y3 Y2 Z0 Z1 Z2 Z3
set_option linter.unusedVariables false
set_option linter.unusedSimpArgs false
section
variable {tx : Int → ByteArray} {w : World} {p sb ob wb n : Nat} {f : Nat → Bool} {xs : List Int} {vs : List Nat}
theorem check_yes (h : SlAt tx w p sb ob wb n f xs vs) {a s : Int} (hw : winB n a s = true) : Calls Tryd.prog 76 #[.pointer (some ⟨p, 0, none⟩), .int .i64 a, .int .i64 s] w fun e w' => e = .returned (.int .i64 0) ∧ w = w' := by
  obtain ⟨h1, h2, h3, h4, h5⟩ := of_decide_eq_true hw
  have q1 : ¬ s < 1 := by omega
  have q2 : ¬ 512 < s := by omega
  have q3 : ¬ a < 0 := by omega
  have q4 : ¬ 512 - s < a := by omega
  have q5 : ¬ (n : Int) < 8 * (a + s) := by omega
  have e1 : decide (s < 1) = false := decide_eq_false q1
  have e2 : decide (512 < s) = false := decide_eq_false q2
  have e3 : decide (a < 0) = false := decide_eq_false q3
  have e4 : decide (512 - s < a) = false := decide_eq_false q4
  have e5 : decide ((n : Int) < 8 * (a + s)) = false := decide_eq_false q5
  have c0 := h.c0
  have C := Aside0.mk (cap_any h)
  have hn := h.bits.high
  clear h
  go_enter Tryd.func76, Tryd.ntmps76
  go_wp2_with fail
  refine C.out.mono ?_
  rintro e w1 ⟨rfl, rfl⟩
  go_wp2
  go_ret
  exact ⟨rfl, rfl⟩
theorem check_no (h : SlAt tx w p sb ob wb n f xs vs) {a s : Int} (hw : winB n a s = false) : Calls Tryd.prog 76 #[.pointer (some ⟨p, 0, none⟩), .int .i64 a, .int .i64 s] w fun e w' => e = .returned (.int .i64 10) ∧ w = w' := by
  have hw := of_decide_eq_false hw
  have c0 := h.c0
  have C := Aside0.mk (cap_any h)
  have hn := h.bits.high
  clear h
  by_cases h1 : s < 1
  · have e1 : decide (s < 1) = true := decide_eq_true h1
    clear hw
    go_enter Tryd.func76, Tryd.ntmps76
    go_wp2
    go_ret
    exact ⟨rfl, rfl⟩
  · have e1 : decide (s < 1) = false := decide_eq_false h1
    by_cases h2 : 512 < s
    · have e2 : decide (512 < s) = true := decide_eq_true h2
      clear hw
      go_enter Tryd.func76, Tryd.ntmps76
      go_wp2
      go_ret
      exact ⟨rfl, rfl⟩
    · have e2 : decide (512 < s) = false := decide_eq_false h2
      by_cases h3 : a < 0
      · have e3 : decide (a < 0) = true := decide_eq_true h3
        clear hw
        go_enter Tryd.func76, Tryd.ntmps76
        go_wp2
        go_ret
        exact ⟨rfl, rfl⟩
      · have e3 : decide (a < 0) = false := decide_eq_false h3
        by_cases h4 : 512 - s < a
        · have e4 : decide (512 - s < a) = true := decide_eq_true h4
          clear hw
          go_enter Tryd.func76, Tryd.ntmps76
          go_wp2
          go_ret
          exact ⟨rfl, rfl⟩
        · have e4 : decide (512 - s < a) = false := decide_eq_false h4
          have h5 : (n : Int) < 8 * (a + s) := by omega
          have e5 : decide ((n : Int) < 8 * (a + s)) = true := decide_eq_true h5
          clear hw
          go_enter Tryd.func76, Tryd.ntmps76
          go_wp2_with fail
          refine C.out.mono ?_
          rintro e w1 ⟨rfl, rfl⟩
          go_wp2
          go_ret
          exact ⟨rfl, rfl⟩
end
theorem mover_any (p : Nat) (tv : Value) (htv : tv = .nilFunc ∨ ∃ ft fc, tv = .func (.func ft) #[] fc) (w : World) : Calls Tryd.prog 77 #[.pointer (some ⟨p, 0, none⟩), tv] w fun e w' => e = .returned (.tuple #[.func (.func 117) #[] #[.pointer (some ⟨w.heap.size, 0, none⟩), .pointer (some ⟨w.heap.size + 1 + 1, 0, none⟩), .pointer (some ⟨w.heap.size + 1, 0, none⟩)], .pointer (some ⟨w.heap.size + 1 + 1, 0, none⟩)]) ∧
    Sep w w' [S1.Blk w.heap.size #[.pointer (some ⟨p, 0, none⟩)] 56, S1.Blk (w.heap.size + 1) #[tv] 71, S1.Blk (w.heap.size + 1 + 1) #[.int .i64 0] 3] := by
  have HS := Aside0.mk ((((Sep.nil w).new_blk #[.pointer (some ⟨p, 0, none⟩)] 56).new_blk #[tv] 71).new_blk #[.int .i64 0] 3)
  simp only [World.size_alloc] at HS
  rcases htv with rfl | ⟨ft, fc, rfl⟩
  · go_enter Tryd.func77, Tryd.ntmps77
    go_wp2
    go_ret2
    exact ⟨rfl, HS.out⟩
  · go_enter Tryd.func77, Tryd.ntmps77
    go_wp2
    go_ret2
    exact ⟨rfl, HS.out⟩
/-- Nobody is told. -/
structure Tell7 {τ : Type} (tv : Value) (T : τ → List Mv → List S1.Ob) : Prop where
  kind : tv = .nilFunc ∧ ∀ s ms m, T s (ms ++ [m]) = T s ms
theorem run_neq0 (w : World) : (Go.binOp .neq 71 .nilFunc .nilFunc).run Tryd.prog w = .ok (.bool false) w := by kernel_rfl
abbrev mvF (z : Nat) : Value := .func (.func 117) #[] #[.pointer (some ⟨z, 0, none⟩), .pointer (some ⟨z + 1 + 1, 0, none⟩), .pointer (some ⟨z + 1, 0, none⟩)]
abbrev MB (z p : Nat) (tv : Value) (k : Nat) : List Ob := [S1.Blk z #[.pointer (some ⟨p, 0, none⟩)] 56, S1.Blk (z + 1) #[tv] 71, S1.Blk (z + 1 + 1) #[.int .i64 (k : Int)] 3]
section
variable {tx : Int → ByteArray} {σ : Type} {T : σ → List Mv → List Ob} {w0 w : World} {n p sb ob wb z : Nat} {g g0 : Gap} {tv : Value} {s : σ} {ms : List Mv} {L : List Ob}
theorem mover1_same (i : Int) (z1 z2 z3 : Value) (w : World) : Calls Tryd.prog 117 #[.int .i64 i, .int .i64 i, z1, z2, z3] w fun e w' => e = .returned (.int .i64 0) ∧ w = w' := by
  have q : (i == i) = true := beq_self_eq_true i
  go_enter Tryd.func117, Tryd.ntmps117
  go_wp2
  go_ret
  exact ⟨rfl, rfl⟩
set_option maxHeartbeats 1000000 in
theorem mover1_move (hTl : Tell7 tv T) (hS : Sep w0 w (T s ms ++ (ArrS tx p sb ob wb n g :: MB z p tv ms.length ++ L))) (hg : runM n g0 ms = g) {x : Int} {i j : Nat} (hv : Valid n g x i j) (hk : ms.length ≤ 1000000) :
    Calls Tryd.prog 117 #[.int .i64 (i : Int), .int .i64 (j : Int), .pointer (some ⟨z, 0, none⟩), .pointer (some ⟨z + 1 + 1, 0, none⟩), .pointer (some ⟨z + 1, 0, none⟩)] w fun e w' => e = .returned (.int .i64 0) ∧ ∃ s', Sep w0 w' (T s' (ms ++ [⟨x, (i : Int), (j : Int)⟩]) ++ (ArrS tx p sb ob wb n (moveS n g (i : Int) (j : Int)) :: MB z p tv (ms ++ [(⟨x, (i : Int), (j : Int)⟩ : Mv)]).length ++ L)) := by
  have q : ((i : Int) == (j : Int)) = false := beq_eq_false_iff_ne.2 (by have := hv.ne; omega)
  have HV := Aside0.mk hv
  have HS := Aside0.mk hS
  have HG := Aside0.mk hg
  obtain ⟨vs, hs⟩ := sep_arr HS.out.right 0 rfl
  have CA := at_on hs hv.hi hv.on
  rw [hv.val] at CA
  have CA := Aside0.mk CA
  have CM := move_any (sep_arr HS.out.right 0 rfl) (i : Int) (j : Int)
  rw [hv.r] at CM
  have CM := Aside0.mk CM
  have c1 : (_ : Option Value) = some (.pointer (some ⟨p, 0, none⟩)) := (blk_cell (HS.out.right.blk 1 rfl) 0).trans rfl
  have hlen : (ms ++ [(⟨x, (i : Int), (j : Int)⟩ : Mv)]).length = ms.length + 1 := by simp
  rw [hlen]
  have hk2 : ((ms.length : Nat) : Int) ≤ 1000000 := by omega
  have hk0 : (0 : Int) ≤ ((ms.length : Nat) : Int) := by omega
  clear hs vs hv hS hg hlen hk
  obtain ⟨rfl, hT0⟩ := hTl.kind
  have HT0 := Aside0.mk hT0
  have hfn := fun w => run_neq0 w
  clear hT0 hTl
  go_enter Tryd.func117, Tryd.ntmps117
  go_wp2_with fail
  refine CA.out.mono ?_
  clear CA
  rintro e w1 ⟨rfl, rfl⟩
  go_wp2_with fail
  refine CM.out.mono ?_
  clear CM
  rintro e w1 ⟨rfl, h4, h5⟩
  replace HS := Aside0.mk (sep_turnR HS.out 0 rfl h5 h4)
  clear h4 h5 c1
  have c2 : (_ : Option Value) = some .nilFunc := (blk_cell (HS.out.right.blk 2 rfl) 0).trans rfl
  have c3 : (_ : Option Value) = some (.int .i64 (ms.length : Int)) := (blk_cell (HS.out.right.blk 3 rfl) 0).trans rfl
  have f3 := blk_frozen (HS.out.right.blk 3 rfl) 0
  have HS4 := Aside0.mk (HS.out.turn_blkR 3 rfl 0 (.int .i64 ((ms.length : Int) + 1)))
  have d2 : (_ : Option Value) = some .nilFunc := (blk_cell (HS4.out.right.blk 2 rfl) 0).trans rfl
  go_wp2
  go_ret
  refine ⟨rfl, s, ?_⟩
  rw [HT0.out]
  exact HS4.out
end
section
variable {tx : Int → ByteArray} {σ : Type} {T : σ → List Mv → List Ob} {w0 w : World} {n p sb ob wb z : Nat} {g : Gap} {tv : Value} {s : σ} {L : List Ob}
set_option maxHeartbeats 2000000 in
theorem pack_any (hTl : Tell7 tv T) (hT : Tb w0) (hS : Sep w0 w (T s [] ++ (ArrS tx p sb ob wb n g :: MB z p tv 0 ++ L))) (hl : n ≤ g.xs.length) {f k : Nat} (hk : 8 * f + 8 * k ≤ n) (hf : f + k ≤ 512) :
    Calls Tryd.prog 78 #[.pointer (some ⟨p, 0, none⟩), .int .i64 (f : Int), .int .i64 (k : Int), mvF z] w fun e w' => e = .returned (.tuple #[.int .i64 ((packP n (8 * f) g (8 * k)).c : Int), .int .i64 0]) ∧
      ∃ s', Sep w0 w' (T s' (packP n (8 * f) g (8 * k)).ms ++ (ArrS tx p sb ob wb n (packP n (8 * f) g (8 * k)).g :: MB z p tv (packP n (8 * f) g (8 * k)).ms.length ++ L)) := by
  have HT := Aside0.mk hT
  have HTl := Aside0.mk hTl
  have HL := Aside0.mk hl
  obtain ⟨b, hb⟩ : ∃ b, 8 * f = b := ⟨_, rfl⟩
  obtain ⟨N, hN⟩ : ∃ N, 8 * k = N := ⟨_, rfl⟩
  have HS : Aside0 (Sep w0 w (T s (packP n b g 0).ms ++ (ArrS tx p sb ob wb n (packP n b g 0).g :: MB z p tv (packP n b g 0).ms.length ++ L))) := ⟨hS⟩
  rw [hb, hN] at hk ⊢
  have eb : 8 * (f : Int) = (b : Int) := by omega
  have eN : 8 * (k : Int) = (N : Int) := by omega
  have hbN : b + N ≤ 4096 := by omega
  have HI := Aside0.mk (fun j (h : b + j ≤ n) => pack_inv (b := b) (g := g) hl j h)
  obtain ⟨vs, hs⟩ := sep_arr HS.out.right 0 rfl
  have C := Aside0.mk (snext_any hs (Kd.C_below HT.out HS.out.below) (b : Int))
  clear hs vs hT hTl hl hS hb hN hf
  go_enter Tryd.func78, Tryd.ntmps78
  go_wp2_with fail
  refine C.out.mono ?_
  clear C
  rintro e w1 ⟨rfl, hd⟩
  replace HS := Aside0.mk (HS.out.step hd.below)
  clear hd
  go_wp2
  go_loopg [12, 13] (N + 1) (fun kq v12 v13 W => ∃ (j : Nat) (s : σ), v12 = .int .i64 ((packP n b g j).c : Int) ∧ v13 = .int .i64 (nextI (packP n b g j).g.on n ((b + j : Nat) : Int)) ∧ j ≤ N ∧ Aside0 (N + 1 - j ≤ kq) ∧ Aside0 (Sep w0 W (T s (packP n b g j).ms ++ (ArrS tx p sb ob wb n (packP n b g j).g :: MB z p tv (packP n b g j).ms.length ++ L))))
  case atStart => exact ⟨0, s, rfl, by rw [Nat.add_zero], by omega, ⟨by omega⟩, HS⟩
  case round =>
    clear HS
    obtain ⟨j, s, rfl, rfl, hj, HQ, HS⟩ := hrel
    have inv := HI.out j (by omega)
    have HR := Aside0.mk inv.rest
    have hcj := inv.le
    clear inv
    rcases next_cases (packP n b g j).g.on n (b + j) (by omega) with ⟨e1, h2⟩ | ⟨t, e1, h2, h3, h4, h5⟩
    · rw [e1]
      have HE := Aside0.mk (pack_skip (b := b) HL.out (a := j) (d := N - j) (by omega) (fun k k1 k2 => by rw [← (HR.out k k1).1]; exact h2 k k1 (by omega)))
      rw [show j + (N - j) = N by omega] at HE
      clear e1 h2
      go_wp2
      go_ret2
      exact ⟨by rw [HE.out]; rfl, s, by rw [HE.out]; exact HS.out⟩
    · rw [e1]
      by_cases hte : t < b + N
      · have HE := pack_skip (b := b) HL.out (a := j) (d := t - b - j) (by omega) (fun k k1 k2 => by rw [← (HR.out k k1).1]; exact h5 k k1 (by omega))
        rw [show j + (t - b - j) = t - b by omega] at HE
        obtain ⟨u, hu⟩ : ∃ u, t - b = u := ⟨_, rfl⟩
        have hu2 : t = b + u := by omega
        rw [hu] at HE
        rw [← HE] at HS h4 ⊢
        have inv := HI.out u (by omega)
        have hcu := inv.le
        have hfew := inv.few
        have hst : packP n b g (u + 1) = (if (packP n b g u).c = u then ⟨(packP n b g u).g, (packP n b g u).c + 1, (packP n b g u).ms⟩ else ⟨moveS n (packP n b g u).g (t : Int) ((b : Int) + ((packP n b g u).c : Int)), (packP n b g u).c + 1, (packP n b g u).ms ++ [⟨(packP n b g u).g.xs.getD t 0, (t : Int), (b : Int) + ((packP n b g u).c : Int)⟩]⟩) := by
          rw [hu2] at h4 ⊢
          show (if (packP n b g u).g.on (b + u) then _ else _) = _
          rw [h4, if_pos rfl, Int.natCast_add, Int.natCast_add]
        have HST := Aside0.mk hst
        have q1 : (t : Int) < (b : Int) + (N : Int) := by omega
        have q2 : (0 : Int) ≤ (t : Int) := by omega
        have d1 : decide ((t : Int) < (b : Int) + (N : Int)) = true := decide_eq_true q1
        have d2 : decide ((0 : Int) ≤ (t : Int)) = true := decide_eq_true q2
        have HJ := Aside0.mk (show j ≤ u by omega)
        have HU := Aside0.mk (show u < N by omega)
        have HU2 := Aside0.mk hu2
        have HRUN := Aside0.mk inv.run
        by_cases hc : (packP n b g u).c = u
        · rw [if_pos hc] at HST
          have HCu := Aside0.mk hc
          have CM := Aside0.mk (mover1_same (t : Int) (.pointer (some ⟨z, 0, none⟩)) (.pointer (some ⟨z + 1 + 1, 0, none⟩)) (.pointer (some ⟨z + 1, 0, none⟩)) wr)
          obtain ⟨vs, hs⟩ := sep_arr HS.out.right 0 rfl
          have C := Aside0.mk (snext_any hs (Kd.C_below HT.out HS.out.below) ((t : Int) + 1))
          have eT : (b : Int) + ((packP n b g u).c : Int) = (t : Int) := by omega
          have hc3 : ((packP n b g u).c : Int) ≤ 4096 := by omega
          clear hs vs inv hst h4 hc e1 h2 h5 HE hu hu2 hcu hfew hcj
          generalize packP n b g u = r at *
          go_wp2_with fail
          refine CM.out.mono ?_
          clear CM
          rintro e w3 ⟨rfl, rfl⟩
          go_wp2_with fail
          refine C.out.mono ?_
          clear C
          rintro e w3 ⟨rfl, hd⟩
          replace HS := Aside0.mk (HS.out.step hd.below)
          clear hd
          go_wp2
          go_roundg (N - u)
          case measure => have := HQ.out; have := HJ.out; have := HU.out; omega
          case rel => exact ⟨u + 1, s, by rw [HST.out]; rfl, by rw [HST.out, show ((b + (u + 1) : Nat) : Int) = (t : Int) + 1 by have := HU2.out; omega], by have := HU.out; omega, ⟨by omega⟩, ⟨by rw [HST.out]; exact HS.out⟩⟩
        · rw [if_neg hc] at HST
          have hv : Valid n (packP n b g u).g ((packP n b g u).g.xs.getD t 0) t (b + (packP n b g u).c) := by
            have := pack_valid inv (by omega) (by rw [← hu2]; exact h4) hc
            rw [← hu2] at this
            exact this
          have CM := mover1_move (i := t) (j := b + (packP n b g u).c) HTl.out HS.out inv.run hv (by omega)
          rw [Int.natCast_add] at CM
          have CM := Aside0.mk CM
          have hc3 : ((packP n b g u).c : Int) ≤ 4096 := by omega
          have hc4 : (0 : Int) ≤ ((packP n b g u).c : Int) := by omega
          clear inv hst h4 hc e1 h2 h5 HE hu hu2 hcu hfew hcj hv
          generalize packP n b g u = r at *
          go_wp2_with fail
          refine CM.out.mono ?_
          clear CM HS
          rintro e w3 ⟨rfl, s', h6⟩
          have HS := Aside0.mk h6
          clear h6
          obtain ⟨vs, hs⟩ := sep_arr HS.out.right 0 rfl
          have C := Aside0.mk (snext_any hs (Kd.C_below HT.out HS.out.below) ((t : Int) + 1))
          clear hs vs
          go_wp2_with fail
          refine C.out.mono ?_
          clear C
          rintro e w4 ⟨rfl, hd⟩
          replace HS := Aside0.mk (HS.out.step hd.below)
          clear hd
          go_wp2
          go_roundg (N - u)
          case measure => have := HQ.out; have := HJ.out; have := HU.out; omega
          case rel => exact ⟨u + 1, s', by rw [HST.out]; rfl, by rw [HST.out, show ((b + (u + 1) : Nat) : Int) = (t : Int) + 1 by have := HU2.out; omega], by have := HU.out; omega, ⟨by omega⟩, ⟨by rw [HST.out]; exact HS.out⟩⟩
      · have HE := Aside0.mk (pack_skip (b := b) HL.out (a := j) (d := N - j) (by omega) (fun k k1 k2 => by rw [← (HR.out k k1).1]; exact h5 k k1 (by omega)))
        rw [show j + (N - j) = N by omega] at HE
        have q1 : ¬ (t : Int) < (b : Int) + (N : Int) := by omega
        have d1 : decide ((t : Int) < (b : Int) + (N : Int)) = false := decide_eq_false q1
        clear e1 h2 h5
        go_wp2
        go_ret2
        exact ⟨by rw [HE.out]; rfl, s, by rw [HE.out]; exact HS.out⟩
end
section
variable {tx : Int → ByteArray} {σ : Type} {T : σ → List Mv → List Ob} {w0 w : World} {n p sb ob wb z : Nat} {g : Gap} {tv : Value} {s : σ} {L : List Ob}
set_option maxHeartbeats 4000000 in
theorem even_any (hTl : Tell7 tv T) (hT : Tb w0) (hS : Sep w0 w (T s [] ++ (ArrS tx p sb ob wb n g :: L))) (hl : n ≤ g.xs.length) {f k : Nat} (hk : 8 * f + 8 * k ≤ n) (hf : f + k ≤ 512) (h1 : 1 ≤ k) :
    Calls Tryd.prog 35 #[.pointer (some ⟨p, 0, none⟩), .int .i64 (f : Int), .int .i64 (k : Int), tv] w fun e w' => e = .returned (.tuple #[.int .i64 ((evenR n f k g).ms.length : Int), .int .i64 0]) ∧ ∃ s', Sep w0 w' (T s' (evenR n f k g).ms ++ (ArrS tx p sb ob wb n (evenR n f k g).g :: L)) := by
  have HT := Aside0.mk hT
  have HTl := Aside0.mk hTl
  have HL := Aside0.mk hl
  have HK := Aside0.mk hk
  have HF := Aside0.mk hf
  have HS := Aside0.mk hS
  obtain ⟨vs, hs⟩ := sep_arr HS.out.right 0 rfl
  have CC := Aside0.mk (check_yes hs (a := (f : Int)) (s := (k : Int)) (decide_eq_true (by omega)))
  have CM := Aside0.mk (mover_any p tv (.inl hTl.kind.1) w)
  obtain ⟨rfl, _⟩ := hTl.kind
  clear hs vs hT hTl hl hk hf hS
  go_enter Tryd.func35, Tryd.ntmps35
  go_wp2_with fail
  refine CC.out.mono ?_
  rintro e w1 ⟨rfl, rfl⟩
  go_wp2_with fail
  refine CM.out.mono ?_
  clear CC CM
  rintro e w1 ⟨rfl, hs1⟩
  replace HS := Aside0.mk (HS.out.append hs1)
  have CP := Aside0.mk (pack_any (z := w.heap.size) (p := p) (sb := sb) (ob := ob) (wb := wb) (L := L) (s := s) HTl.out HT.out (by
    have h : Sep w0 w1 ((T s [] ++ (ArrS tx p sb ob wb n g :: L)) ++ MB w.heap.size p _ 0) := HS.out
    rw [List.append_assoc] at h
    exact h.perm (List.Perm.append_left _ (List.Perm.cons _ List.perm_append_comm))) HL.out HK.out HF.out)
  clear hs1
  go_wp2_with fail
  refine CP.out.mono ?_
  clear CP HS
  rintro e w2 ⟨rfl, s2, hs2⟩
  have HS := Aside0.mk hs2
  clear hs2
  have hinv := pack_inv (b := 8 * f) HL.out (8 * k) HK.out
  have hc := hinv.le
  have hfew := hinv.few
  have HEV := Aside0.mk (ev_start (qs := plK (packP n (8 * f) g (8 * k)).c k f k) (pack_win hinv HL.out))
  have HPL := Aside0.mk (plc_of (n := n) (f := f) h1 hc HK.out)
  clear hinv
  generalize hr : packP n (8 * f) g (8 * k) = r at *
  have HR := Aside0.mk hr
  clear hr
  obtain ⟨rg, c, ms⟩ := r
  dsimp only at HS HEV HPL hc hfew HR ⊢
  have CS := Aside0.mk (spl_any (n := c) (s := k) (f := f) h1 hc HF.out w2)
  have hc2 : c ≤ 4096 := by have := HF.out; omega
  obtain ⟨b, hb⟩ : ∃ b, 8 * f = b := ⟨_, rfl⟩
  have eb : 8 * (f : Int) = (b : Int) := by omega
  have hbn : b + 8 * k ≤ 4096 := by have := HF.out; omega
  rw [hb] at HEV HPL HR
  have HB := Aside0.mk hb
  have HCC := Aside0.mk hc
  have HFW := Aside0.mk hfew
  have H1 := Aside0.mk h1
  clear hb hc hfew h1
  go_wp2_with fail
  refine CS.out.mono ?_
  clear CS
  rintro e w3 ⟨A, cp, rfl, g1, g2, g3, hb3⟩
  have HS3 : Aside0 (Sep w0 w3 ((T s2 ms ++ (ArrS tx p sb ob wb n rg :: MB w.heap.size p _ ms.length ++ L)) ++ [S1.Own (.slice A c cp) (plK c k f k)])) := ⟨HS.out.append (own_conv hb3 g3 (by rw [HPL.out.len]))⟩
  clear HS g1 g2 g3 hb3
  generalize hps : plK c k f k = ps at *
  have HER : Aside0 (evenR n f k g = evenP n b c ps ⟨rg, ms⟩ c) := ⟨by
    unfold evenR
    rw [HB.out, HR.out]
    dsimp only
    rw [hps]⟩
  clear hps
  go_wp2
  go_loopg [16] (c + 1) (fun kq v16 W => ∃ (d : Nat) (s : σ), v16 = .int .i64 ((c : Int) - 1 - (d : Int)) ∧ d ≤ c ∧ Aside0 (c + 1 - d ≤ kq) ∧ Aside0 (Sep w0 W (T s (evenP n b c ps ⟨rg, ms⟩ d).ms ++ (ArrS tx p sb ob wb n (evenP n b c ps ⟨rg, ms⟩ d).g :: MB w.heap.size p _ (evenP n b c ps ⟨rg, ms⟩ d).ms.length ++ (L ++ [S1.Own (.slice A c cp) ps])))))
  case atStart =>
    refine ⟨0, s2, by go_num, by omega, ⟨by omega⟩, ⟨?_⟩⟩
    have h := HS3.out
    simp only [List.append_assoc, List.cons_append] at h ⊢
    exact h
  case round =>
    clear HS3
    obtain ⟨d, s, rfl, hd, HQ, HS⟩ := hrel
    by_cases hlt : d < c
    · obtain ⟨iN, hiN⟩ : ∃ iN, c - 1 - d = iN := ⟨_, rfl⟩
      have ei : (c : Int) - 1 - (d : Int) = (iN : Int) := by omega
      rw [ei]
      have inv := even_inv (r0 := ⟨rg, ms⟩) HPL.out HEV.out d hd
      obtain ⟨q, hq, hq1, hq2⟩ := HPL.out.nat (show iN < c by omega)
      have hst : evenP n b c ps ⟨rg, ms⟩ (d + 1) = (if ((b + iN : Nat) : Int) = (q : Int) then evenP n b c ps ⟨rg, ms⟩ d else ⟨moveS n (evenP n b c ps ⟨rg, ms⟩ d).g ((b + iN : Nat) : Int) (q : Int), (evenP n b c ps ⟨rg, ms⟩ d).ms ++ [⟨(evenP n b c ps ⟨rg, ms⟩ d).g.xs.getD (b + iN) 0, ((b + iN : Nat) : Int), (q : Int)⟩]⟩) := by rw [← hq, ← hiN]; rfl
      have few := even_few (n := n) (b := b) (c := c) (ps := ps) (r0 := ⟨rg, ms⟩) d
      have few2 : (evenP n b c ps ⟨rg, ms⟩ d).ms.length ≤ 10000 := by have := HFW.out; dsimp only at few; omega
      have hrow : Kd.C (Kd.int .i64) wr A c ps := by
        have h := HS.out.ok (S1.Own (.slice A c cp) ps) (by simp)
        obtain ⟨A', c', e', _, h2⟩ := G9.own_C h
        injection e' with e1 e2 e3
        subst e1
        rw [HPL.out.len] at h2
        exact h2
      obtain ⟨ad, e, hx⟩ := Kd.at_int hrow (iN : Int) (by omega) (by omega)
      cases e
      rw [Int.toNat_natCast, show rd ps (iN : Int) = ps.getD iN 0 from rfl, hq] at hx
      have hi4 : (iN : Int) ≤ 4096 := by omega
      have hlti : (iN : Int) < (c : Int) := by omega
      have HI := Aside0.mk (And.intro ei (And.intro hd hlt))
      by_cases hne : b + iN = q
      · rw [if_pos (by omega)] at hst
        have HST := Aside0.mk hst
        have CM := Aside0.mk (mover1_same (q : Int) (.pointer (some ⟨w.heap.size, 0, none⟩)) (.pointer (some ⟨w.heap.size + 1 + 1, 0, none⟩)) (.pointer (some ⟨w.heap.size + 1, 0, none⟩)) wr)
        have eT : (b : Int) + (iN : Int) = (q : Int) := by omega
        clear hst hrow inv hq hq1 hq2 few few2 hiN ei hne hlt hd
        go_wp2_with fail
        refine CM.out.mono ?_
        clear CM
        rintro e w5 ⟨rfl, rfl⟩
        go_wp2
        go_roundg (c - d)
        case measure => have := HQ.out; have := HI.out; omega
        case rel => exact ⟨d + 1, s, by congr 1; have := HI.out; omega, by have := HI.out; omega, ⟨by have := HI.out; omega⟩, ⟨by rw [HST.out]; exact HS.out⟩⟩
      · rw [if_neg (by omega)] at hst
        have HST := Aside0.mk hst
        have hv := even_valid HPL.out inv hlt (by rw [hiN]; exact hq) (by rw [hiN]; exact hne)
        rw [hiN] at hv
        have CM := mover1_move HTl.out HS.out inv.run hv (by omega)
        rw [Int.natCast_add] at CM
        rw [Int.natCast_add] at HST
        have CM := Aside0.mk CM
        clear hst hrow inv hq hq1 hq2 few few2 hiN ei hne hlt hd hv HS
        go_wp2_with fail
        refine CM.out.mono ?_
        clear CM
        rintro e w5 ⟨rfl, s', h6⟩
        have HS := Aside0.mk h6
        clear h6
        go_wp2
        go_roundg (c - d)
        case measure => have := HQ.out; have := HI.out; omega
        case rel => exact ⟨d + 1, s', by congr 1; have := HI.out; omega, by have := HI.out; omega, ⟨by have := HI.out; omega⟩, ⟨by rw [HST.out]; exact HS.out⟩⟩
    · obtain rfl : d = c := by omega
      rw [show (d : Int) - 1 - (d : Int) = -1 by omega]
      have c3 : (_ : Option Value) = some (.int .i64 ((evenP n b d ps ⟨rg, ms⟩ d).ms.length : Int)) := (blk_cell (HS.out.right.blk 3 rfl) 0).trans rfl
      go_wp2
      go_ret2
      refine ⟨by rw [HER.out]; rfl, s, ?_⟩
      rw [HER.out]
      exact HS.out.sub (List.Sublist.append (List.Sublist.refl _) (List.Sublist.cons_cons _ ((List.sublist_append_left _ _).trans (List.sublist_append_right _ _))))
end
end Go.Proofs.YtofkkdjbilklcaaDoor.HS
