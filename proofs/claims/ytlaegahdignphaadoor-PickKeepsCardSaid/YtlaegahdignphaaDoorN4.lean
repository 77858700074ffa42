/- The chapter's examples, walked. -/
import Derived.Test.YtlaegahdignphaaDoorN2
import Derived.Test.YtlaegahdignphaaDoorN3
namespace Go.Proofs.YtlaegahdignphaaDoor.N4
open Go.RowKit Go.Shelf Go.Proofs.YtlaegahdignphaaDoorW.PrintWords Go.Proofs.YtlaegahdignphaaDoorW.PrintLast Go.Proofs.YtlaegahdignphaaDoorW.PrintMore Q1 Q2 L1 L3 S1 M1 M2 M3 M4 M5 M6 M7 M8 M9 N1 N2 N3 SL SG
set_option linter.unusedVariables false
set_option linter.unusedSimpArgs false

def exA : List Int := [8, 2, 1, 1, 1, 1, 1, 1]
def exB : List Int := [8, 5, 4, 4]
theorem good_A : goodL exA := by unfold goodL exA; decide
theorem good_B : goodL exB := by unfold goodL exB; decide
theorem ck_A : ckE exA = 0 := ck_of (by decide) good_A
theorem ck_B : ckE exB = 0 := ck_of (by decide) good_B
theorem wrg_A : wrg exA ((0 : Nat) : Int) = 0 := by unfold wrg; rw [if_neg (by rw [ck_A]; decide), if_neg (by decide)]
theorem wrg_B : wrg exB ((0 : Nat) : Int) = 0 := by unfold wrg; rw [if_neg (by rw [ck_B]; decide), if_neg (by decide)]
theorem lvl_A : lvlI exA 0 = 1 := by decide +kernel
theorem pick_A : pickN exA 0 = (1, 0, 2, 64, 0) := by decide +kernel
theorem pick_B : pickN exB 0 = (2, 0, 8, 64, 0) := by decide +kernel
theorem spr_A : spr exA 0 2 = [5, 5, 1, 1, 1, 1, 1, 1] := by decide +kernel
theorem ok_A : winOkB exA.length ((0 : Nat) : Int) ((2 : Nat) : Int) = true := by
  classical
  unfold winOkB
  exact decide_eq_true ⟨0, 2, rfl, rfl, by decide, by decide, by decide⟩
theorem blk_reads {w : World} {b : Nat} {l : List Int} (h : w.heap[b]? = some (.cells (l.map (Value.int .i64)).toArray 3 (0, 0))) (hl : l.length ≤ 1000) : Kd.C (Kd.int .i64) w (some ⟨b, 0, none⟩) l.length l := by
  refine ⟨rfl, by omega, fun _ => ⟨_, rfl, fun j p hp => ⟨[.int .i64 p], rfl, rfl, fun i u hu => ?_⟩⟩⟩
  obtain ⟨rfl, rfl⟩ : i = 0 ∧ u = .int .i64 p := by
    cases i with
    | zero => exact ⟨rfl, by simpa using hu.symm⟩
    | succ i => simp at hu
  rw [add_plain]
  refine (cell_of_row w b _ _ 3 (0, 0) h).trans ?_
  show (List.map (Value.int .i64) l).toArray[j * 1 + 0]? = _
  simp [hp]
theorem level_A {w : World} {b : Nat} (h : w.heap[b]? = some (.cells (exA.map (Value.int .i64)).toArray 3 (0, 0))) (hT : Tb w) :
    Calls Tryd.prog 34 #[.slice (some ⟨b, 0, none⟩) 8 8, .int .i64 0] w fun e w' => e = .returned (.tuple #[.int .i64 1, .int .i64 0]) ∧ Below w.heap.size w w' := by
  have := level_good (blk_reads h (by decide)) (c := 8) (by decide) hT (s := 0) wrg_A
  rw [lvl_A] at this
  exact this
theorem pick_A' {w : World} {b : Nat} (h : w.heap[b]? = some (.cells (exA.map (Value.int .i64)).toArray 3 (0, 0))) (hT : Tb w) :
    Calls Tryd.prog 35 #[.slice (some ⟨b, 0, none⟩) 8 8, .int .i64 0] w fun e w' => e = .returned (.tuple #[.agg #[.int .i64 1, .int .i64 0, .int .i64 2, .int .i64 64], .int .i64 0]) ∧ Below w.heap.size w w' := by
  have := pick_good (blk_reads h (by decide)) (c := 8) (by decide) hT (s := 0) wrg_A
  unfold pickV at this
  rw [pick_A] at this
  exact this
theorem pick_B' {w : World} {b : Nat} (h : w.heap[b]? = some (.cells (exB.map (Value.int .i64)).toArray 3 (0, 0))) (hT : Tb w) :
    Calls Tryd.prog 35 #[.slice (some ⟨b, 0, none⟩) 4 4, .int .i64 0] w fun e w' => e = .returned (.tuple #[.agg #[.int .i64 2, .int .i64 0, .int .i64 8, .int .i64 64], .int .i64 0]) ∧ Below w.heap.size w w' := by
  have := pick_good (blk_reads h (by decide)) (c := 4) (by decide) hT (s := 0) wrg_B
  unfold pickV at this
  rw [pick_B] at this
  exact this
theorem after_A {w : World} {b : Nat} (h : w.heap[b]? = some (.cells (exA.map (Value.int .i64)).toArray 3 (0, 0))) :
    Calls Tryd.prog 40 #[.slice (some ⟨b, 0, none⟩) 8 8, .agg #[.int .i64 1, .int .i64 0, .int .i64 2, .int .i64 64]] w fun e w' => ∃ A' c', e = .returned (.tuple #[.slice A' 8 c', .int .i64 0]) ∧ Sep w w' [S1.Own (.slice A' 8 c') [5, 5, 1, 1, 1, 1, 1, 1]] := by
  have := after_win (blk_reads h (by decide)) (c := 8) (by decide) ck_A good_A (by decide) (f := 0) (s := 2) ok_A (by decide) (by decide)
  rw [spr_A] at this
  exact this
set_option maxHeartbeats 4000000 in
theorem awake_any (w : World) (hT : Tb w) : Calls Tryd.prog 33 #[] w fun e w' => e = .returned (.bool true) ∧ Below w.heap.size w w' := by
  have HT := Aside0.mk hT
  have hs0 := (Sep.nil w).new_blk (exA.map (Value.int .i64)).toArray 3
  have HS := Aside0.mk hs0
  have C := Aside0.mk (level_A (hs0.blk 0 rfl) (Kd.C_below hT hs0.below))
  unfold exA at C HS
  simp only [List.map_cons, List.map_nil] at C HS
  clear hT hs0
  go_enter Tryd.func33, Tryd.ntmps33
  go_wp2_with fail
  refine C.out.mono ?_
  clear C
  rintro e w1 ⟨rfl, hb⟩
  replace HS := Aside0.mk (HS.out.step hb)
  clear hb
  have C := Aside0.mk (pick_A' (HS.out.blk 0 rfl) (Kd.C_below HT.out HS.out.below))
  go_wp2_with fail
  refine C.out.mono ?_
  clear C
  rintro e w2 ⟨rfl, hb⟩
  replace HS := Aside0.mk ((HS.out.step hb).new_blk #[.int .i64 1, .int .i64 0, .int .i64 2, .int .i64 64] 41)
  clear hb
  have C := Aside0.mk (after_A (HS.out.blk 0 rfl))
  go_wp2_with fail
  refine C.out.mono ?_
  clear C
  rintro e w3 ⟨A', c', rfl, hs⟩
  replace HS := Aside0.mk ((HS.out.append hs).new_blk (exB.map (Value.int .i64)).toArray 3)
  clear hs
  have C := Aside0.mk (pick_B' (HS.out.blk 3 rfl) (Kd.C_below HT.out HS.out.below))
  unfold exB at C HS
  simp only [List.map_cons, List.map_nil] at C HS
  go_wp2_with fail
  refine C.out.mono ?_
  clear C
  rintro e w4 ⟨rfl, hb⟩
  replace HS := Aside0.mk ((HS.out.step hb).new_blk #[.int .i64 2, .int .i64 0, .int .i64 8, .int .i64 64] 41)
  clear hb
  have c0 : (_ : Option Value) = some (.int .i64 1) := (blk_cell (HS.out.blk 1 rfl) 0).trans rfl
  have c1 : (_ : Option Value) = some (.int .i64 0) := (blk_cell (HS.out.blk 1 rfl) 1).trans rfl
  have c2 : (_ : Option Value) = some (.int .i64 2) := (blk_cell (HS.out.blk 1 rfl) 2).trans rfl
  have c3 : (_ : Option Value) = some (.int .i64 64) := (blk_cell (HS.out.blk 1 rfl) 3).trans rfl
  replace HS := Aside0.mk (HS.out.new_blk (([5, 5, 1, 1, 1, 1, 1, 1] : List Int).map (Value.int .i64)).toArray 3)
  obtain ⟨_, hc', hr'⟩ := HS.out.row 2 rfl
  have C := Aside0.mk (ints_any hr' hc' (blk_reads (HS.out.blk 5 rfl) (by decide)) (c1 := 8) (by decide) (by decide))
  clear hc' hr'
  have heq := fun w => eqS w
  have hgd := guardS
  have g1 : eqB (1, 0, 2, 64) (1, 0, 2, 64) = true := decide_eq_true rfl
  have g2 : eqB (2, 0, 8, 64) (2, 0, 8, 64) = true := decide_eq_true rfl
  simp only [List.map_cons, List.map_nil, World.size_alloc, List.length_cons, List.length_nil, Nat.reduceAdd] at C
  go_wp2_with fail
  refine C.out.mono ?_
  clear C c0 c1 c2 c3
  rintro e w5 ⟨rfl, hd⟩
  replace HS := Aside0.mk (HS.out.step hd.below)
  clear hd
  have d0 : (_ : Option Value) = some (.int .i64 2) := (blk_cell (HS.out.blk 4 rfl) 0).trans rfl
  have d1 : (_ : Option Value) = some (.int .i64 0) := (blk_cell (HS.out.blk 4 rfl) 1).trans rfl
  have d2 : (_ : Option Value) = some (.int .i64 8) := (blk_cell (HS.out.blk 4 rfl) 2).trans rfl
  have d3 : (_ : Option Value) = some (.int .i64 64) := (blk_cell (HS.out.blk 4 rfl) 3).trans rfl
  go_wp2
  go_ret
  exact ⟨rfl, HS.out.below⟩
end Go.Proofs.YtlaegahdignphaaDoor.N4
