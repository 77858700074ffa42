/- Spreads, and counts looked at: walks of Share, shares, Check. -/
import Derived.Test.YtlaegahdignphaaDoorSE
import Derived.Test.YtlaegahdignphaaDoorQ2
import Derived.Test.YtlaegahdignphaaDoorL3
namespace Go.Proofs.YtlaegahdignphaaDoor.M1
open Go.RowKit Go.Proofs.YtlaegahdignphaaDoorW.PrintWords Go.Proofs.YtlaegahdignphaaDoorW.PrintLast Go.Proofs.YtlaegahdignphaaDoorW.PrintMore Q2 L1 L3 S1
set_option linter.unusedVariables false
set_option linter.unusedSimpArgs false
theorem made_nums (n : Nat) : madeCells #[.int .i64 0] n = (nums .i64 (List.replicate n 0)).toArray := by
  apply Array.ext
  · simp [size_madeCells, nums]
  · intro i h1 h2
    simp [madeCells, nums, Nat.mod_one]
theorem make_ints (n : Nat) (hn : n ≤ 1000000) (W : World) : (Instr.makeSlice 38 (.int .i64 (n : Int)) (.int .i64 (n : Int))).run Tryd.prog W = .ok (.slice (some ⟨W.heap.size, 0, none⟩) n n) (W.alloc (.cells (nums .i64 (List.replicate n 0)).toArray 3)) := by
  have h := print_make_int (P := Tryd.prog) 38 3 (.int .i64 0) 8 Tryd.underlying38 S1.info3 rfl (by decide) (n : Int) (by omega) (by omega) W
  rw [Int.toNat_natCast, made_nums] at h
  exact h
theorem nums_set (l : List Int) (p : Nat) (v : Int) : (nums .i64 l).toArray.setIfInBounds p (.int .i64 v) = (nums .i64 (l.set p v)).toArray := by
  simp [nums, List.map_set]

theorem w64 {x : Int} (h : -9223372036854775808 ≤ x) (h2 : x ≤ 9223372036854775807) : wrap64 x = x := w64r h h2
def rightB (n s : Int) : Bool := decide (1 ≤ s ∧ s ≤ 512 ∧ 0 ≤ n ∧ n ≤ 8 * s)
theorem right_f (n s : Int) : spread_right.f n s = some (rightB n s) := by
  unfold spread_right.f spread_between.f rightB
  by_cases h1 : s ≥ 1
  · by_cases h2 : s ≤ 512
    · rw [if_pos h1, decide_eq_true h2]
      simp only [Option.bind_some, if_true]
      rw [w64 (by omega) (by omega)]
      by_cases h3 : n ≥ 0
      · rw [if_pos h3]
        simp only [Option.bind_some]
        congr 1
        by_cases h4 : n ≤ 8 * s
        · rw [decide_eq_true h4, decide_eq_true (by omega)]
        · rw [decide_eq_false h4, decide_eq_false (by omega)]
      · rw [if_neg h3]
        simp only [Option.bind_some]
        rw [decide_eq_false (by omega)]
    · rw [if_pos h1, decide_eq_false h2, show decide (1 ≤ s ∧ s ≤ 512 ∧ 0 ≤ n ∧ n ≤ 8 * s) = false from decide_eq_false (by omega)]
      rfl
  · rw [if_neg h1, show decide (1 ≤ s ∧ s ≤ 512 ∧ 0 ≤ n ∧ n ≤ 8 * s) = false from decide_eq_false (by omega)]
    rfl
theorem right_any (n s : Int) (w : World) : Calls Tryd.prog 66 #[.int .i64 n, .int .i64 s] w fun e w' => e = .returned (.bool (rightB n s)) ∧ Drawn0 w w' := spread_right.calls n s _ w (right_f n s)
theorem between_any (n a b : Int) (w : World) : Calls Tryd.prog 67 #[.int .i64 n, .int .i64 a, .int .i64 b] w fun e w' => e = .returned (.bool (decide (a ≤ n ∧ n ≤ b))) ∧ Drawn0 w w' := by
  refine spread_between.calls n a b _ w ?_
  unfold spread_between.f
  by_cases h : n ≥ a
  · rw [if_pos h]
    congr 1
    by_cases h2 : n ≤ b
    · rw [decide_eq_true h2, decide_eq_true ⟨h, h2⟩]
    · rw [decide_eq_false h2, decide_eq_false (fun c => h2 c.2)]
  · rw [if_neg h, decide_eq_false (fun c => h c.1)]
theorem ahead1_any {w : World} {nb sb : Nat} {n s k : Nat} (hn : w.heap[nb]? = some (.cells #[.int .i64 n] 3 (0, 0))) (hs : w.heap[sb]? = some (.cells #[.int .i64 s] 3 (0, 0))) (h1 : 1 ≤ s) (h2 : s ≤ 512) (h3 : n ≤ 4096) (h4 : k ≤ 512) :
    Calls Tryd.prog 81 #[.int .i64 k, .pointer (some ⟨nb, 0, none⟩), .pointer (some ⟨sb, 0, none⟩)] w fun e w' => e = .returned (.int .i64 (k * n / s : Nat)) ∧ w = w' := by
  have c0 : w.cell? ⟨nb, 0, none⟩ = some (.int .i64 n) := (blk_cell hn 0).trans rfl
  have c1 : w.cell? ⟨sb, 0, none⟩ = some (.int .i64 s) := (blk_cell hs 0).trans rfl
  have hm : k * n ≤ 512 * 4096 := Nat.mul_le_mul h4 h3
  have q1 : (0 : Int) ≤ (k : Int) * (n : Int) := by have : ((k * n : Nat) : Int) = (k : Int) * (n : Int) := Int.natCast_mul k n; omega
  have q2 : (k : Int) * (n : Int) ≤ 2097152 := by have : ((k * n : Nat) : Int) = (k : Int) * (n : Int) := Int.natCast_mul k n; omega
  have E := Aside0.mk (show ((k * n / s : Nat) : Int) = (k : Int) * (n : Int) / (s : Int) by rw [Int.natCast_ediv, Int.natCast_mul])
  clear hn hs hm
  go_enter Tryd.func81, Tryd.ntmps81
  go_wp2
  go_ret
  refine ⟨?_, rfl⟩
  rw [E.out]
  rfl
theorem ahead_any (n s : Int) (w : World) : Calls Tryd.prog 68 #[.int .i64 n, .int .i64 s] w fun e w' => e = .returned (.func (.func 81) #[] #[.pointer (some ⟨w.heap.size, 0, none⟩), .pointer (some ⟨w.heap.size + 1, 0, none⟩)]) ∧ (w.alloc (.cells #[.int .i64 n] 3)).alloc (.cells #[.int .i64 s] 3) = w' := by
  go_enter Tryd.func68, Tryd.ntmps68
  go_wp2
  go_ret
  exact ⟨rfl, rfl⟩
/-- How many come into a segment. -/
def shr (n s k : Nat) : Nat := (k + 1) * n / s - k * n / s
theorem shr_le {n s k : Nat} (h1 : 1 ≤ s) : k * n / s ≤ (k + 1) * n / s := Nat.div_le_div_right (Nat.mul_le_mul_right n (by omega))
theorem share_yes {n s k : Nat} (h1 : 1 ≤ s) (h2 : s ≤ 512) (h3 : n ≤ 8 * s) (h4 : k < s) (w : World) :
    Calls Tryd.prog 44 #[.int .i64 n, .int .i64 s, .int .i64 k] w fun e w' => e = .returned (.tuple #[.int .i64 (shr n s k), .int .i64 0]) ∧ Below w.heap.size w w' := by
  have C := right_any n s w
  rw [show rightB n s = true from decide_eq_true (by omega)] at C
  have C := Aside0.mk C
  have EH := Aside0.mk (shr_le (n := n) (k := k) h1)
  have hm1 : k * n ≤ 512 * 4096 := Nat.mul_le_mul (by omega) (by omega)
  have hm2 : (k + 1) * n / s ≤ (k + 1) * n := Nat.div_le_self _ _
  have hm3 : (k + 1) * n ≤ 513 * 4096 := Nat.mul_le_mul (by omega) (by omega)
  have HM := Aside0.mk (Nat.le_trans hm2 hm3)
  clear hm1 hm2 hm3
  go_enter Tryd.func44, Tryd.ntmps44
  go_wp2_with fail
  refine C.out.mono ?_
  clear C
  rintro e w1 ⟨rfl, hw⟩
  have HB := Aside0.mk hw.below
  clear hw
  have C := between_any (k : Int) 0 ((s : Int) - 1) w1
  rw [decide_eq_true (show (0 : Int) ≤ (k : Int) ∧ (k : Int) ≤ (s : Int) - 1 by omega)] at C
  have C := Aside0.mk C
  go_wp2_with fail
  refine C.out.mono ?_
  clear C
  rintro e w2 ⟨rfl, hw⟩
  replace HB := Aside0.mk (below_step HB.out hw.below)
  clear hw
  go_wp2_with fail
  refine (ahead_any _ _ _).mono ?_
  rintro e w3 ⟨rfl, rfl⟩
  have HS := Aside0.mk (((Sep.nil w2).new_blk #[.int .i64 n] 3).new_blk #[.int .i64 s] 3)
  simp only [World.size_alloc] at HS
  have D1 := ahead1_any (k := k + 1) (HS.out.blk 0 rfl) (HS.out.blk 1 rfl) h1 h2 (by omega) (by omega)
  rw [show ((k + 1 : Nat) : Int) = (k : Int) + 1 by omega] at D1
  have D1 := Aside0.mk D1
  have D2 := Aside0.mk (ahead1_any (k := k) (HS.out.blk 0 rfl) (HS.out.blk 1 rfl) h1 h2 (by omega) (by omega))
  have ES := Aside0.mk (show ((shr n s k : Nat) : Int) = (((k + 1) * n / s : Nat) : Int) - ((k * n / s : Nat) : Int) by unfold shr; have := EH.out; omega)
  have HM1 := HM.out
  have HM2 := EH.out
  generalize (k + 1) * n / s = x1 at *
  generalize k * n / s = x2 at *
  go_wp2_with fail
  refine D1.out.mono ?_
  rintro e w4 ⟨rfl, rfl⟩
  go_wp2_with fail
  refine D2.out.mono ?_
  rintro e w4 ⟨rfl, rfl⟩
  go_wp2
  go_ret2
  rw [ES.out]
  exact ⟨rfl, below_step HB.out HS.out.below⟩
theorem share_no {n s : Int} (h : rightB n s = false) (k : Int) (w : World) :
    Calls Tryd.prog 44 #[.int .i64 n, .int .i64 s, .int .i64 k] w fun e w' => e = .returned (.tuple #[.int .i64 0, .int .i64 1]) ∧ Drawn0 w w' := by
  have C := right_any n s w
  rw [h] at C
  have C := Aside0.mk C
  clear h
  go_enter Tryd.func44, Tryd.ntmps44
  go_wp2_with fail
  refine C.out.mono ?_
  clear C
  rintro e w1 ⟨rfl, hw⟩
  have HW := Aside0.mk hw
  clear hw
  go_wp2
  go_ret2
  exact ⟨rfl, HW.out⟩
set_option maxHeartbeats 4000000 in
/-- One share is put in its place. -/
theorem shares1_yes {w : World} {nb sb ob rb : Nat} {n s k : Nat} {xs : List Int} (hn : w.heap[nb]? = some (.cells #[.int .i64 n] 3 (0, 0))) (hs : w.heap[sb]? = some (.cells #[.int .i64 s] 3 (0, 0)))
    (ho : w.heap[ob]? = some (.cells #[.slice (some ⟨rb, 0, none⟩) s s] 38 (0, 0))) (hr : w.heap[rb]? = some (.cells (nums .i64 xs).toArray 3 (0, 0))) (hl : xs.length = s)
    (h1 : 1 ≤ s) (h2 : s ≤ 512) (h3 : n ≤ 8 * s) (h4 : k < s) :
    Calls Tryd.prog 78 #[.int .i64 k, .pointer (some ⟨nb, 0, none⟩), .pointer (some ⟨sb, 0, none⟩), .pointer (some ⟨ob, 0, none⟩)] w fun e w' => e = .returned (.int .i64 0) ∧ w'.heap[rb]? = some (.cells (nums .i64 (xs.set k (shr n s k))).toArray 3 (0, 0)) ∧ Only (· = rb) w w' := by
  have c0 : w.cell? ⟨nb, 0, none⟩ = some (.int .i64 n) := (blk_cell hn 0).trans rfl
  have c1 : w.cell? ⟨sb, 0, none⟩ = some (.int .i64 s) := (blk_cell hs 0).trans rfl
  have c2 : w.cell? ⟨ob, 0, none⟩ = some (.slice (some ⟨rb, 0, none⟩) s s) := (blk_cell ho 0).trans rfl
  have c3 : w.cell? ⟨rb, k, none⟩ = some (.int .i64 (xs.getD k 0)) := by
    rw [blk_cell hr k]
    have : k < xs.length := by omega
    simp [nums, List.getD_eq_getElem?_getD, this]
  have C := Aside0.mk (fun w => share_yes h1 h2 h3 h4 w)
  have HR := Aside0.mk hr
  have i1 : (0 : Int) ≤ (k : Int) := by omega
  have i2 : (k : Int) < (s : Int) := by omega
  clear hn hs ho hr
  generalize xs.getD k 0 = x0 at *
  go_enter Tryd.func78, Tryd.ntmps78
  go_wp2
  go_region_with (go_at_call 44; refine (C.out _).mono ?_; rintro e w1 ⟨rfl, hb⟩; have z2 := pw_cell_below hb c2; have z3 := pw_cell_below hb c3; have z4 := blk_frozen (blk_below (show w.drew.heap[rb]? = _ from HR.out) hb) k; have HB := Aside0.mk hb; clear hb)
  all_goals
    go_wp2
    go_ret
    refine ⟨rfl, ?_, (Only.of_below (w := w) (below_step (below_drew (Below.refl _ w)) HB.out)).then_ (Only.set (· = rb) w1 (p := ⟨rb, k, none⟩) rfl _) fun _ h => .inl h⟩
    rw [blk_set (blk_below (show w.drew.heap[rb]? = _ from HR.out) HB.out) k, nums_set]
set_option maxHeartbeats 4000000 in
theorem shares1_no {w : World} {nb sb ob rb : Nat} {n s k : Nat} {xs : List Int} (hn : w.heap[nb]? = some (.cells #[.int .i64 n] 3 (0, 0))) (hs : w.heap[sb]? = some (.cells #[.int .i64 s] 3 (0, 0)))
    (ho : w.heap[ob]? = some (.cells #[.slice (some ⟨rb, 0, none⟩) s s] 38 (0, 0))) (hr : w.heap[rb]? = some (.cells (nums .i64 xs).toArray 3 (0, 0))) (hl : xs.length = s)
    (h1 : rightB n s = false) (h2 : s ≤ 512) (h4 : k < s) :
    Calls Tryd.prog 78 #[.int .i64 k, .pointer (some ⟨nb, 0, none⟩), .pointer (some ⟨sb, 0, none⟩), .pointer (some ⟨ob, 0, none⟩)] w fun e w' => e = .returned (.int .i64 1) ∧ Only (· = rb) w w' := by
  have c0 : w.cell? ⟨nb, 0, none⟩ = some (.int .i64 n) := (blk_cell hn 0).trans rfl
  have c1 : w.cell? ⟨sb, 0, none⟩ = some (.int .i64 s) := (blk_cell hs 0).trans rfl
  have c2 : w.cell? ⟨ob, 0, none⟩ = some (.slice (some ⟨rb, 0, none⟩) s s) := (blk_cell ho 0).trans rfl
  have c3 : w.cell? ⟨rb, k, none⟩ = some (.int .i64 (xs.getD k 0)) := by
    rw [blk_cell hr k]
    have : k < xs.length := by omega
    simp [nums, List.getD_eq_getElem?_getD, this]
  have C := Aside0.mk (fun w => share_no h1 k w)
  have HR := Aside0.mk hr
  have i1 : (0 : Int) ≤ (k : Int) := by omega
  have i2 : (k : Int) < (s : Int) := by omega
  clear hn hs ho hr h1
  generalize xs.getD k 0 = x0 at *
  go_enter Tryd.func78, Tryd.ntmps78
  go_wp2
  go_region_with (go_at_call 44; refine (C.out _).mono ?_; rintro e w1 ⟨rfl, hd⟩; have hb := hd.below; have z2 := pw_cell_below hb c2; have z3 := pw_cell_below hb c3; have z4 := blk_frozen (blk_below (show w.drew.heap[rb]? = _ from HR.out) hb) k; have HB := Aside0.mk hb; clear hb hd)
  all_goals
    go_wp2
    go_ret
    exact ⟨rfl, (Only.of_below (w := w) (below_step (below_drew (Below.refl _ w)) HB.out)).then_ (Only.set (· = rb) w1 (p := ⟨rb, k, none⟩) rfl _) fun _ h => .inl h⟩
/-- The shares of the first segments, naught behind. -/
def shrT (n s i : Nat) : List Int := (List.range i).map (fun k => (shr n s k : Int)) ++ List.replicate (s - i) 0
def shrL (n s : Nat) : List Int := (List.range s).map fun k => (shr n s k : Int)
theorem shrT_len {n s i : Nat} (h : i ≤ s) : (shrT n s i).length = s := by simp [shrT]; omega
theorem shrT_set {n s i : Nat} (h : i < s) : (shrT n s i).set i (shr n s i) = shrT n s (i + 1) := by
  unfold shrT
  rw [List.range_succ, List.map_append, show s - i = (s - (i + 1)) + 1 by omega, List.replicate_succ, List.set_append_right _ _ (by simp)]
  simp
theorem shrT_all (n s : Nat) : shrT n s s = shrL n s := by simp [shrT, shrL]
theorem shares_yes {n s : Nat} (h1 : 1 ≤ s) (h2 : s ≤ 512) (h3 : n ≤ 8 * s) (w : World) : Calls Tryd.prog 63 #[.int .i64 n, .int .i64 s] w fun e w' => ∃ rb, e = .returned (.tuple #[.slice (some ⟨rb, 0, none⟩) s s, .int .i64 0]) ∧ Sep w w' [Blk rb (nums .i64 (shrL n s)).toArray 3] := by
  have HS := Aside0.mk (((((Sep.nil w).new_blk #[.int .i64 n] 3).new_blk #[.int .i64 s] 3).new_blk (nums .i64 (List.replicate s 0)).toArray 3).new_blk #[.slice (some ⟨w.heap.size + 1 + 1, 0, none⟩) s s] 38)
  simp only [World.size_alloc] at HS
  have hmk := make_ints s (by omega)
  have t0 := (blk_cell (blk_new (w.alloc (.cells #[.int .i64 n] 3)) (.cells #[.int .i64 s] 3)) 0).trans rfl
  simp only [World.size_alloc] at t0
  go_enter Tryd.func63, Tryd.ntmps63
  go_wp2
  clear hmk t0
  go_loopg [15] s (fun kq v15 W => ∃ i : Nat, v15 = .int .i64 i ∧ i ≤ s ∧ Aside0 (s - i ≤ kq) ∧ Aside0 (Sep w W [Blk w.heap.size #[.int .i64 n] 3, Blk (w.heap.size + 1) #[.int .i64 s] 3, Blk (w.heap.size + 1 + 1) (nums .i64 (shrT n s i)).toArray 3, Blk (w.heap.size + 1 + 1 + 1) #[.slice (some ⟨w.heap.size + 1 + 1, 0, none⟩) s s] 38]))
  case atStart => exact ⟨0, rfl, by omega, ⟨by omega⟩, HS⟩
  case round =>
    clear HS
    obtain ⟨i, rfl, hi, HQ, HS⟩ := hrel
    by_cases hlt : i < s
    · go_wp2_with fail
      refine (shares1_yes (HS.out.blk 0 rfl) (HS.out.blk 1 rfl) (HS.out.blk 3 rfl) (HS.out.blk 2 rfl) (shrT_len hi) h1 h2 h3 hlt).mono ?_
      rintro e w1 ⟨rfl, hr, ho⟩
      rw [shrT_set hlt] at hr
      replace HS := Aside0.mk (HS.out.turn 2 rfl ho (fun k hk => by rw [hk]; simp [Blk]) (Blk (w.heap.size + 1 + 1) (nums .i64 (shrT n s (i + 1))).toArray 3) hr (fun k hk => .inl hk))
      clear hr ho
      go_wp2
      go_roundg (s - (i + 1))
      case measure => have := HQ.out; omega
      case rel => exact ⟨i + 1, by go_num, by omega, ⟨Nat.le_refl _⟩, HS⟩
    · obtain rfl : i = s := by omega
      have t1 := (blk_cell (HS.out.blk 3 rfl) 0).trans rfl
      go_wp2
      go_ret2
      refine ⟨_, rfl, ?_⟩
      rw [← shrT_all]
      exact HS.out.sub (by simp)
theorem shares_no {n s : Nat} (h1 : 1 ≤ s) (h2 : s ≤ 512) (h3 : 8 * s < n) (w : World) : Calls Tryd.prog 63 #[.int .i64 n, .int .i64 s] w fun e w' => e = .returned (.tuple #[.slice none 0 0, .int .i64 1]) ∧ Below w.heap.size w w' := by
  have hno : rightB n s = false := decide_eq_false (by omega)
  have HS := Aside0.mk (((((Sep.nil w).new_blk #[.int .i64 n] 3).new_blk #[.int .i64 s] 3).new_blk (nums .i64 (List.replicate s 0)).toArray 3).new_blk #[.slice (some ⟨w.heap.size + 1 + 1, 0, none⟩) s s] 38)
  simp only [World.size_alloc] at HS
  have hmk := make_ints s (by omega)
  have t0 := (blk_cell (blk_new (w.alloc (.cells #[.int .i64 n] 3)) (.cells #[.int .i64 s] 3)) 0).trans rfl
  simp only [World.size_alloc] at t0
  go_enter Tryd.func63, Tryd.ntmps63
  go_wp2
  clear hmk t0
  go_loopg [15] s (fun kq v15 W => v15 = .int .i64 (0 : Nat) ∧ Aside0 (Sep w W [Blk w.heap.size #[.int .i64 n] 3, Blk (w.heap.size + 1) #[.int .i64 s] 3, Blk (w.heap.size + 1 + 1) (nums .i64 (List.replicate s 0)).toArray 3, Blk (w.heap.size + 1 + 1 + 1) #[.slice (some ⟨w.heap.size + 1 + 1, 0, none⟩) s s] 38]))
  case atStart => exact ⟨rfl, HS⟩
  case round =>
    clear HS
    obtain ⟨rfl, HS⟩ := hrel
    go_wp2_with fail
    refine (shares1_no (HS.out.blk 0 rfl) (HS.out.blk 1 rfl) (HS.out.blk 3 rfl) (HS.out.blk 2 rfl) (by simp) hno h2 (by omega)).mono ?_
    rintro e w1 ⟨rfl, ho⟩
    have HB := Aside0.mk (ho.below HS.out.below HS.out.below.size (fun k hk => by omega))
    clear ho
    go_wp2
    go_ret2
    exact ⟨rfl, HB.out⟩
end Go.Proofs.YtlaegahdignphaaDoor.M1
