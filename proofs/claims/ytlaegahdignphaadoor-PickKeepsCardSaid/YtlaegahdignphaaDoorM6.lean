/- Level and Pick walked, over what find tells. -/
import Derived.Test.YtlaegahdignphaaDoorM5
namespace Go.Proofs.YtlaegahdignphaaDoor.M6
open Go.RowKit Go.Shelf Go.Proofs.YtlaegahdignphaaDoorW.PrintWords Go.Proofs.YtlaegahdignphaaDoorW.PrintLast Go.Proofs.YtlaegahdignphaaDoorW.PrintMore Q2 L1 L3 S1 M1 M2 M3 M4 M5
set_option linter.unusedVariables false
set_option linter.unusedSimpArgs false

section
variable {w : World} {A : Option Addr} {n c : Nat} {s : Int}
theorem level_err {e0 : Int} (he : e0 ≠ 0) (C : Calls Tryd.prog 56 #[.slice A n c, .int .i64 s] w fun e w' => e = .returned (.tuple #[.agg #[.int .i64 0, .int .i64 0, .int .i64 0], .int .i64 0, .bool false, .int .i64 e0]) ∧ Below w.heap.size w w') :
    Calls Tryd.prog 34 #[.slice A n c, .int .i64 s] w fun e w' => e = .returned (.tuple #[.int .i64 0, .int .i64 e0]) ∧ Below w.heap.size w w' := by
  have C := Aside0.mk C
  have q : (e0 != 0) = true := bne_iff_ne.2 he
  clear he
  go_enter Tryd.func34, Tryd.ntmps34
  go_wp2_with fail
  refine C.out.mono ?_
  clear C
  rintro e w1 ⟨rfl, hb⟩
  have HB := Aside0.mk (below_step hb (below_alloc (Below.refl _ w1) (.cells #[.int .i64 0, .int .i64 0, .int .i64 0] 61)))
  clear hb
  go_wp2
  go_ret2
  exact ⟨rfl, HB.out⟩
theorem level_none {h : Int} (C : Calls Tryd.prog 56 #[.slice A n c, .int .i64 s] w fun e w' => e = .returned (.tuple #[.agg #[.int .i64 0, .int .i64 0, .int .i64 0], .int .i64 h, .bool false, .int .i64 0]) ∧ Below w.heap.size w w') :
    Calls Tryd.prog 34 #[.slice A n c, .int .i64 s] w fun e w' => e = .returned (.tuple #[.int .i64 (-1), .int .i64 0]) ∧ Below w.heap.size w w' := by
  have C := Aside0.mk C
  go_enter Tryd.func34, Tryd.ntmps34
  go_wp2_with fail
  refine C.out.mono ?_
  clear C
  rintro e w1 ⟨rfl, hb⟩
  have HB := Aside0.mk (below_step hb (below_alloc (Below.refl _ w1) (.cells #[.int .i64 0, .int .i64 0, .int .i64 0] 61)))
  clear hb
  go_wp2
  go_ret2
  exact ⟨rfl, HB.out⟩
theorem level_some {h k f m : Int} (C : Calls Tryd.prog 56 #[.slice A n c, .int .i64 s] w fun e w' => e = .returned (.tuple #[.agg #[.int .i64 k, .int .i64 f, .int .i64 m], .int .i64 h, .bool true, .int .i64 0]) ∧ Below w.heap.size w w') :
    Calls Tryd.prog 34 #[.slice A n c, .int .i64 s] w fun e w' => e = .returned (.tuple #[.int .i64 k, .int .i64 0]) ∧ Below w.heap.size w w' := by
  have C := Aside0.mk C
  go_enter Tryd.func34, Tryd.ntmps34
  go_wp2_with fail
  refine C.out.mono ?_
  clear C
  rintro e w1 ⟨rfl, hb⟩
  have HB := Aside0.mk (below_step hb (below_alloc (Below.refl _ w1) (.cells #[.int .i64 k, .int .i64 f, .int .i64 m] 61)))
  clear hb
  go_wp2
  go_ret2
  exact ⟨rfl, HB.out⟩
def step0 : Array Value := #[.int .i64 0, .int .i64 0, .int .i64 0, .int .i64 0]
theorem size_step : (Tryd.prog.info? 41).map (·.size) = some 4 := by kernel_rfl
theorem results_ct2 {P : Program} {fn : Func} {p u : Tmp} {ty : TypeId} (h : fn.results = #[.cell p ty, .tmp u]) (tmps : Array Value) (w : World) (g : Nat) (t : TypeId) (cs : Array Value) (fr : Nat × Nat) (d : TypeDesc)
    (hp : tmps.getD p undef = .pointer (some ⟨g, 0, none⟩)) (hg : w.heap[g]? = some (.cells cs t fr))
    (hu : P.underlying ty = some d) (hd : (match d with | .struct _ | .array _ _ => true | _ => false) = true) (hi : (P.info? ty).map (·.size) = some cs.size) :
    (results fn tmps).run P w = .ok (.tuple #[.agg cs, tmps.getD u undef]) w := by
  have hp' : tmps[p]?.getD undef = .pointer (some ⟨g, 0, none⟩) := by simpa using hp
  simp [results, h, hp', asAddr, run_loadVar_row w g t ty cs fr d hg hu hd hi]
theorem pick_err {e0 : Int} (he : e0 ≠ 0) (C : ∀ W, Below w.heap.size w W → Calls Tryd.prog 56 #[.slice A n c, .int .i64 s] W fun e w' => e = .returned (.tuple #[.agg #[.int .i64 0, .int .i64 0, .int .i64 0], .int .i64 0, .bool false, .int .i64 e0]) ∧ Below W.heap.size W w') :
    Calls Tryd.prog 35 #[.slice A n c, .int .i64 s] w fun e w' => e = .returned (.tuple #[.agg step0, .int .i64 e0]) ∧ Below w.heap.size w w' := by
  have C := Aside0.mk C
  have q : (e0 != 0) = true := bne_iff_ne.2 he
  clear he
  have HS := Aside0.mk ((Sep.nil w).new_blk step0 41)
  go_enter Tryd.func35, Tryd.ntmps35
  unfold step0 at HS
  go_wp2_with fail
  refine (C.out _ (HS.out.below)).mono ?_
  clear C
  rintro e w1 ⟨rfl, hb⟩
  replace HS := Aside0.mk ((HS.out.step hb).new_blk #[.int .i64 0, .int .i64 0, .int .i64 0] 61)
  clear hb
  have c0 : (_ : Option Value) = some (.int .i64 0) := (blk_cell (HS.out.blk 0 rfl) 0).trans rfl
  have c1 : (_ : Option Value) = some (.int .i64 0) := (blk_cell (HS.out.blk 0 rfl) 1).trans rfl
  have c2 : (_ : Option Value) = some (.int .i64 0) := (blk_cell (HS.out.blk 0 rfl) 2).trans rfl
  have c3 : (_ : Option Value) = some (.int .i64 0) := (blk_cell (HS.out.blk 0 rfl) 3).trans rfl
  have f0 := blk_frozen (HS.out.blk 0 rfl) 0
  have f1 := blk_frozen (HS.out.blk 0 rfl) 1
  have f2 := blk_frozen (HS.out.blk 0 rfl) 2
  have f3 := blk_frozen (HS.out.blk 0 rfl) 3
  go_wp2
  replace HS := Aside0.mk ((((HS.out.turn_blk 0 rfl 0 (.int .i64 0)).turn_blk 0 rfl 1 (.int .i64 0)).turn_blk 0 rfl 2 (.int .i64 0)).turn_blk 0 rfl 3 (.int .i64 0))
  (try rw [Exit.noGoto_ret])
  refine bodyPost_ret (results_ct2 (p := 4) (ty := 41) rfl _ _ w.heap.size 41 _ (0, 0) _ rfl (HS.out.blk 0 rfl) Tryd.underlying41 rfl size_step) rfl ?_
  exact ⟨rfl, HS.out.below⟩
theorem pick_some {h k f m : Int} (hn : n ≤ 512) (C : ∀ W, Below w.heap.size w W → Calls Tryd.prog 56 #[.slice A n c, .int .i64 s] W fun e w' => e = .returned (.tuple #[.agg #[.int .i64 k, .int .i64 f, .int .i64 m], .int .i64 h, .bool true, .int .i64 0]) ∧ Below W.heap.size W w') :
    Calls Tryd.prog 35 #[.slice A n c, .int .i64 s] w fun e w' => e = .returned (.tuple #[.agg #[.int .i64 1, .int .i64 f, .int .i64 m, .int .i64 (8 * (n : Int))], .int .i64 0]) ∧ Below w.heap.size w w' := by
  have C := Aside0.mk C
  have HS := Aside0.mk ((Sep.nil w).new_blk step0 41)
  go_enter Tryd.func35, Tryd.ntmps35
  unfold step0 at HS
  go_wp2_with fail
  refine (C.out _ (HS.out.below)).mono ?_
  clear C
  rintro e w1 ⟨rfl, hb⟩
  replace HS := Aside0.mk ((HS.out.step hb).new_blk #[.int .i64 k, .int .i64 f, .int .i64 m] 61)
  clear hb
  have c0 : (_ : Option Value) = some (.int .i64 0) := (blk_cell (HS.out.blk 0 rfl) 0).trans rfl
  have c1 : (_ : Option Value) = some (.int .i64 0) := (blk_cell (HS.out.blk 0 rfl) 1).trans rfl
  have c2 : (_ : Option Value) = some (.int .i64 0) := (blk_cell (HS.out.blk 0 rfl) 2).trans rfl
  have c3 : (_ : Option Value) = some (.int .i64 0) := (blk_cell (HS.out.blk 0 rfl) 3).trans rfl
  have f0 := blk_frozen (HS.out.blk 0 rfl) 0
  have f1 := blk_frozen (HS.out.blk 0 rfl) 1
  have f2 := blk_frozen (HS.out.blk 0 rfl) 2
  have f3 := blk_frozen (HS.out.blk 0 rfl) 3
  go_wp2
  replace HS := Aside0.mk ((((HS.out.turn_blk 0 rfl 0 (.int .i64 1)).turn_blk 0 rfl 1 (.int .i64 f)).turn_blk 0 rfl 2 (.int .i64 m)).turn_blk 0 rfl 3 (.int .i64 (8 * (n : Int))))
  (try rw [Exit.noGoto_ret])
  refine bodyPost_ret (results_ct2 (p := 4) (ty := 41) rfl _ _ w.heap.size 41 _ (0, 0) _ rfl (HS.out.blk 0 rfl) Tryd.underlying41 rfl size_step) rfl ?_
  exact ⟨rfl, HS.out.below⟩
end
/-- What Pick tells where no window is within. -/
def noneV (n : Nat) (x : Int) : Value :=
  if x < 0 then .tuple #[.agg #[.int .i64 3, .int .i64 0, .int .i64 (n / 2 : Nat), .int .i64 (4 * (n : Int))], .int .i64 0]
  else if n = 512 then .tuple #[.agg step0, .int .i64 16]
  else .tuple #[.agg #[.int .i64 2, .int .i64 0, .int .i64 (2 * (n : Int)), .int .i64 (16 * (n : Int))], .int .i64 0]
theorem pick_none {w : World} {A : Option Addr} {c : Nat} {s : Int} {l : List Int} (hr : Kd.C (Kd.int .i64) w A l.length l) (hlc : l.length ≤ c) (hg : goodL l) (hcp : Caps l)
    (C : ∀ W, Below w.heap.size w W → Calls Tryd.prog 56 #[.slice A l.length c, .int .i64 s] W fun e w' => e = .returned (.tuple #[.agg #[.int .i64 0, .int .i64 0, .int .i64 0], .int .i64 (hN l), .bool false, .int .i64 0]) ∧ Below W.heap.size W w')
    (hx : withN l.sum (hN l) (hN l) ≠ 0) :
    Calls Tryd.prog 35 #[.slice A l.length c, .int .i64 s] w fun e w' => e = .returned (noneV l.length (withN l.sum (hN l) (hN l))) ∧ Below w.heap.size w w' := by
  have C := Aside0.mk C
  have hl := hcp.le
  have hE : ∃ m : Nat, l.length = 2 * m := ⟨2 ^ (hN l - 1), by rw [hcp.len, ← Nat.pow_succ']; congr 1; have := hcp.h2; omega⟩
  obtain ⟨K, hK⟩ := sum_ev hg (by omega)
  have C2 := Aside0.mk (fun w hr => pick_sum.calls K A c l _ w hr hlc (hK K (Nat.le_refl _)))
  have C3 := Aside0.mk (fun w => within_nat hg hcp (f := 0) (n := l.length) (k := hN l) (Nat.le_refl _) w)
  have HR := Aside0.mk hr
  rw [show sumW l 0 l.length = l.sum by simp [sumW]] at C3
  obtain ⟨m, hm⟩ := hE
  have e1 : ((l.length : Int)).tdiv 2 = m := by rw [Int.tdiv_eq_ediv_of_nonneg (by omega)]; omega
  have e2 : (8 * (l.length : Int)).tdiv 2 = 4 * (l.length : Int) := by rw [Int.tdiv_eq_ediv_of_nonneg (by omega)]; omega
  have HM := Aside0.mk (show l.length / 2 = m by omega)
  have hm2 : m ≤ 256 := by omega
  clear hg hlc hK hr hcp hm
  generalize withN l.sum (hN l) (hN l) = x at *
  have HS := Aside0.mk ((Sep.nil w).new_blk step0 41)
  go_enter Tryd.func35, Tryd.ntmps35
  unfold step0 at HS
  go_wp2_with fail
  refine (C.out _ (HS.out.below)).mono ?_
  clear C
  rintro e w1 ⟨rfl, hb⟩
  replace HS := Aside0.mk ((HS.out.step hb).new_blk #[.int .i64 0, .int .i64 0, .int .i64 0] 61)
  clear hb
  have c0 : (_ : Option Value) = some (.int .i64 0) := (blk_cell (HS.out.blk 0 rfl) 0).trans rfl
  have c1 : (_ : Option Value) = some (.int .i64 0) := (blk_cell (HS.out.blk 0 rfl) 1).trans rfl
  have c2 : (_ : Option Value) = some (.int .i64 0) := (blk_cell (HS.out.blk 0 rfl) 2).trans rfl
  have c3 : (_ : Option Value) = some (.int .i64 0) := (blk_cell (HS.out.blk 0 rfl) 3).trans rfl
  have f0 := blk_frozen (HS.out.blk 0 rfl) 0
  have f1 := blk_frozen (HS.out.blk 0 rfl) 1
  have f2 := blk_frozen (HS.out.blk 0 rfl) 2
  have f3 := blk_frozen (HS.out.blk 0 rfl) 3
  have D := Aside0.mk (C2.out _ (Kd.C_below HR.out HS.out.below))
  go_wp2_with fail
  refine D.out.mono ?_
  clear C2 D c0 c1 c2 c3 f0 f1 f2 f3
  rintro e w2 ⟨rfl, hd⟩
  replace HS := Aside0.mk (HS.out.step hd.below)
  clear hd
  go_wp2_with fail
  refine (C3.out _).mono ?_
  clear C3
  rintro e w3 ⟨rfl, hd⟩
  replace HS := Aside0.mk (HS.out.step hd.below)
  clear hd
  have c0 : (_ : Option Value) = some (.int .i64 0) := (blk_cell (HS.out.blk 0 rfl) 0).trans rfl
  have c1 : (_ : Option Value) = some (.int .i64 0) := (blk_cell (HS.out.blk 0 rfl) 1).trans rfl
  have c2 : (_ : Option Value) = some (.int .i64 0) := (blk_cell (HS.out.blk 0 rfl) 2).trans rfl
  have c3 : (_ : Option Value) = some (.int .i64 0) := (blk_cell (HS.out.blk 0 rfl) 3).trans rfl
  have f0 := blk_frozen (HS.out.blk 0 rfl) 0
  have f1 := blk_frozen (HS.out.blk 0 rfl) 1
  have f2 := blk_frozen (HS.out.blk 0 rfl) 2
  have f3 := blk_frozen (HS.out.blk 0 rfl) 3
  by_cases h1 : x < 0
  · have HV : Aside0 (noneV l.length x = .tuple #[.agg #[.int .i64 3, .int .i64 0, .int .i64 (m : Nat), .int .i64 (4 * (l.length : Int))], .int .i64 0]) := ⟨by unfold noneV; rw [if_pos h1, HM.out]⟩
    clear hx
    go_wp2
    rw [HV.out]
    replace HS := Aside0.mk ((((HS.out.turn_blk 0 rfl 0 (.int .i64 3)).turn_blk 0 rfl 1 (.int .i64 0)).turn_blk 0 rfl 2 (.int .i64 m)).turn_blk 0 rfl 3 (.int .i64 (4 * (l.length : Int))))
    (try rw [Exit.noGoto_ret])
    refine bodyPost_ret (results_ct2 (p := 4) (ty := 41) rfl _ _ w.heap.size 41 _ (0, 0) _ rfl (HS.out.blk 0 rfl) Tryd.underlying41 rfl size_step) rfl ?_
    exact ⟨rfl, HS.out.below⟩
  · by_cases h2 : l.length = 512
    · have HV : Aside0 (noneV l.length x = .tuple #[.agg #[.int .i64 0, .int .i64 0, .int .i64 0, .int .i64 0], .int .i64 16]) := ⟨by unfold noneV; rw [if_neg h1, if_pos h2]; rfl⟩
      have q : (8 * (l.length : Int) == 4096) = true := beq_iff_eq.2 (by omega)
      clear hx h2
      go_wp2
      rw [HV.out]
      replace HS := Aside0.mk ((((HS.out.turn_blk 0 rfl 0 (.int .i64 0)).turn_blk 0 rfl 1 (.int .i64 0)).turn_blk 0 rfl 2 (.int .i64 0)).turn_blk 0 rfl 3 (.int .i64 0))
      (try rw [Exit.noGoto_ret])
      refine bodyPost_ret (results_ct2 (p := 4) (ty := 41) rfl _ _ w.heap.size 41 _ (0, 0) _ rfl (HS.out.blk 0 rfl) Tryd.underlying41 rfl size_step) rfl ?_
      exact ⟨rfl, HS.out.below⟩
    · have HV : Aside0 (noneV l.length x = .tuple #[.agg #[.int .i64 2, .int .i64 0, .int .i64 (2 * (l.length : Int)), .int .i64 (16 * (l.length : Int))], .int .i64 0]) := ⟨by unfold noneV; rw [if_neg h1, if_neg h2]⟩
      have q : (8 * (l.length : Int) == 4096) = false := beq_eq_false_iff_ne.2 (by omega)
      have e3 : 2 * (8 * (l.length : Int)) = 16 * (l.length : Int) := by omega
      clear hx h2
      go_wp2
      rw [HV.out]
      replace HS := Aside0.mk ((((HS.out.turn_blk 0 rfl 0 (.int .i64 2)).turn_blk 0 rfl 1 (.int .i64 0)).turn_blk 0 rfl 2 (.int .i64 (2 * (l.length : Int)))).turn_blk 0 rfl 3 (.int .i64 (16 * (l.length : Int))))
      (try rw [Exit.noGoto_ret])
      refine bodyPost_ret (results_ct2 (p := 4) (ty := 41) rfl _ _ w.heap.size 41 _ (0, 0) _ rfl (HS.out.blk 0 rfl) Tryd.underlying41 rfl size_step) rfl ?_
      exact ⟨rfl, HS.out.below⟩
end Go.Proofs.YtlaegahdignphaaDoor.M6
