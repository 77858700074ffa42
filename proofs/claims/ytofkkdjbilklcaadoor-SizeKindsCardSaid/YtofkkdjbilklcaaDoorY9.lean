/- An array of another capacity, where there is none; an array that is laid. -/
import Derived.Test.YtofkkdjbilklcaaDoorY7
namespace Go.Proofs.YtofkkdjbilklcaaDoor.Y9
open Go.RowKit Go.Shelf Go.Proofs.YtofkkdjbilklcaaDoorW.PrintWords Go.Proofs.YtofkkdjbilklcaaDoorW.PrintLast Go.Proofs.YtofkkdjbilklcaaDoorW.PrintMore G1 G0 Q1 G2 G3 G4 G5 G6 G7 G8 G9 G10 S1 Y1 Y3 Y2 Y4 Y5 Y6
open L1 (capB)
set_option linter.unusedVariables false
set_option linter.unusedSimpArgs false
section
variable {w : World} {p sb ob wb n : Nat} {g : Gap}
set_option maxRecDepth 100000 in
theorem resize_bad (hI : Is w p sb ob wb n g) {s : Int} (hc : capB s = false) : Calls Tryd.prog 45 #[.pointer (some ⟨p, 0, none⟩), .int .i64 s, .nilFunc] w fun e w' => e = .returned (.tuple #[.pointer none, .int .i64 10]) ∧ Below w.heap.size w w' := by
  have CE := Aside0.mk (fun w => empty_bad hc (cntF g.on n : Nat) w)
  have HS := Aside0.mk ((((Sep.nil w).new_blk #[.nilFunc] 32).new_blk #[.pointer none] 25).new_blk #[.int .i64 0] 33)
  simp only [World.size_alloc] at HS
  obtain ⟨vs, hs⟩ := hI.below HS.out.below
  have CL := Aside0.mk (slen_any hs)
  clear hs vs hI hc
  refine callsIn_wide.1 (callsIn_of_wp_marks (n := 3) Tryd.func45 rfl trivial ?_ rfl)
  refine wpIn_wide.2 ?_
  simp only [Tryd.ntmps45, List.size_toArray, List.length_cons, List.length_nil, Nat.reduceAdd, Nat.reduceSub, Array.replicate_succ, Array.replicate_zero, List.push_toArray, List.append_toArray, List.nil_append, List.cons_append]
  go_wp2_with fail
  refine CL.out.mono ?_
  clear CL
  rintro e w1 ⟨rfl, hd⟩
  replace HS := Aside0.mk (HS.out.step hd.below)
  clear hd
  go_wp2_with fail
  refine (CE.out _).mono ?_
  clear CE
  rintro e w2 ⟨rfl, hb⟩
  replace HS := Aside0.mk (HS.out.step hb)
  clear hb
  replace HS := Aside0.mk ((HS.out.new_blk #[.pointer none] 25).new_blk #[.slice none 0 0] 22)
  simp only [World.size_alloc] at HS
  have f1 := blk_frozen (HS.out.blk 1 rfl) 0
  have f2 := blk_frozen (HS.out.blk 2 rfl) 0
  have c1 : (_ : Option Value) = some (.pointer none) := (blk_cell (HS.out.blk 1 rfl) 0).trans rfl
  have c2 : (_ : Option Value) = some (.int .i64 0) := (blk_cell (HS.out.blk 2 rfl) 0).trans rfl
  go_wp2
  have HS8 := (HS.out.turn_blk 1 rfl 0 (.pointer none)).turn_blk 2 rfl 0 (.int .i64 10)
  (try simp only [Exit.inBlock, Exit.then])
  refine leave0 (results_cc (t := 6) (u := 7) (ty := 25) (uy := 33) (b := w.heap.size + 1) (d := w.heap.size + 1 + 1) rfl rfl rfl ((blk_cell (HS8.blk 1 rfl) 0).trans rfl) ((blk_cell (HS8.blk 2 rfl) 0).trans rfl) (run_isAgg_plain Tryd.underlying25 rfl _) (run_isAgg_plain Tryd.underlying33 rfl _)) ⟨rfl, HS8.below⟩
set_option maxRecDepth 100000 in
theorem resize_long (hI : Is w p sb ob wb n g) {S : Nat} (hc : capB (S : Int) = true) (hl : S < cntF g.on n) : Calls Tryd.prog 45 #[.pointer (some ⟨p, 0, none⟩), .int .i64 (S : Int), .nilFunc] w fun e w' => e = .returned (.tuple #[.pointer none, .int .i64 12]) ∧ Below w.heap.size w w' := by
  have CE := Aside0.mk (fun w => empty_long hc hl w)
  clear hl
  have HS := Aside0.mk ((((Sep.nil w).new_blk #[.nilFunc] 32).new_blk #[.pointer none] 25).new_blk #[.int .i64 0] 33)
  simp only [World.size_alloc] at HS
  obtain ⟨vs, hs⟩ := hI.below HS.out.below
  have CL := Aside0.mk (slen_any hs)
  clear hs vs hI hc
  refine callsIn_wide.1 (callsIn_of_wp_marks (n := 3) Tryd.func45 rfl trivial ?_ rfl)
  refine wpIn_wide.2 ?_
  simp only [Tryd.ntmps45, List.size_toArray, List.length_cons, List.length_nil, Nat.reduceAdd, Nat.reduceSub, Array.replicate_succ, Array.replicate_zero, List.push_toArray, List.append_toArray, List.nil_append, List.cons_append]
  go_wp2_with fail
  refine CL.out.mono ?_
  clear CL
  rintro e w1 ⟨rfl, hd⟩
  replace HS := Aside0.mk (HS.out.step hd.below)
  clear hd
  go_wp2_with fail
  refine (CE.out _).mono ?_
  clear CE
  rintro e w2 ⟨rfl, hb⟩
  replace HS := Aside0.mk (HS.out.step hb)
  clear hb
  replace HS := Aside0.mk ((HS.out.new_blk #[.pointer none] 25).new_blk #[.slice none 0 0] 22)
  simp only [World.size_alloc] at HS
  have f1 := blk_frozen (HS.out.blk 1 rfl) 0
  have f2 := blk_frozen (HS.out.blk 2 rfl) 0
  have c1 : (_ : Option Value) = some (.pointer none) := (blk_cell (HS.out.blk 1 rfl) 0).trans rfl
  have c2 : (_ : Option Value) = some (.int .i64 0) := (blk_cell (HS.out.blk 2 rfl) 0).trans rfl
  go_wp2
  have HS8 := (HS.out.turn_blk 1 rfl 0 (.pointer none)).turn_blk 2 rfl 0 (.int .i64 12)
  (try simp only [Exit.inBlock, Exit.then])
  refine leave0 (results_cc (t := 6) (u := 7) (ty := 25) (uy := 33) (b := w.heap.size + 1) (d := w.heap.size + 1 + 1) rfl rfl rfl ((blk_cell (HS8.blk 1 rfl) 0).trans rfl) ((blk_cell (HS8.blk 2 rfl) 0).trans rfl) (run_isAgg_plain Tryd.underlying25 rfl _) (run_isAgg_plain Tryd.underlying33 rfl _)) ⟨rfl, HS8.below⟩
set_option maxRecDepth 100000 in
theorem resize_badF (hI : Is w p sb ob wb n g) {s : Int} (hc : capB s = false) (ft : FuncId) (fc : Array Value) : Calls Tryd.prog 45 #[.pointer (some ⟨p, 0, none⟩), .int .i64 s, .func (.func ft) #[] fc] w fun e w' => e = .returned (.tuple #[.pointer none, .int .i64 10]) ∧ Below w.heap.size w w' := by
  have CE := Aside0.mk (fun w => empty_bad hc (cntF g.on n : Nat) w)
  have HS := Aside0.mk ((((Sep.nil w).new_blk #[.func (.func ft) #[] fc] 32).new_blk #[.pointer none] 25).new_blk #[.int .i64 0] 33)
  simp only [World.size_alloc] at HS
  obtain ⟨vs, hs⟩ := hI.below HS.out.below
  have CL := Aside0.mk (slen_any hs)
  clear hs vs hI hc
  refine callsIn_wide.1 (callsIn_of_wp_marks (n := 3) Tryd.func45 rfl trivial ?_ rfl)
  refine wpIn_wide.2 ?_
  simp only [Tryd.ntmps45, List.size_toArray, List.length_cons, List.length_nil, Nat.reduceAdd, Nat.reduceSub, Array.replicate_succ, Array.replicate_zero, List.push_toArray, List.append_toArray, List.nil_append, List.cons_append]
  go_wp2_with fail
  refine CL.out.mono ?_
  clear CL
  rintro e w1 ⟨rfl, hd⟩
  replace HS := Aside0.mk (HS.out.step hd.below)
  clear hd
  go_wp2_with fail
  refine (CE.out _).mono ?_
  clear CE
  rintro e w2 ⟨rfl, hb⟩
  replace HS := Aside0.mk (HS.out.step hb)
  clear hb
  replace HS := Aside0.mk ((HS.out.new_blk #[.pointer none] 25).new_blk #[.slice none 0 0] 22)
  simp only [World.size_alloc] at HS
  have f1 := blk_frozen (HS.out.blk 1 rfl) 0
  have f2 := blk_frozen (HS.out.blk 2 rfl) 0
  have c1 : (_ : Option Value) = some (.pointer none) := (blk_cell (HS.out.blk 1 rfl) 0).trans rfl
  have c2 : (_ : Option Value) = some (.int .i64 0) := (blk_cell (HS.out.blk 2 rfl) 0).trans rfl
  go_wp2
  have HS8 := (HS.out.turn_blk 1 rfl 0 (.pointer none)).turn_blk 2 rfl 0 (.int .i64 10)
  (try simp only [Exit.inBlock, Exit.then])
  refine leave0 (results_cc (t := 6) (u := 7) (ty := 25) (uy := 33) (b := w.heap.size + 1) (d := w.heap.size + 1 + 1) rfl rfl rfl ((blk_cell (HS8.blk 1 rfl) 0).trans rfl) ((blk_cell (HS8.blk 2 rfl) 0).trans rfl) (run_isAgg_plain Tryd.underlying25 rfl _) (run_isAgg_plain Tryd.underlying33 rfl _)) ⟨rfl, HS8.below⟩
set_option maxRecDepth 100000 in
theorem resize_longF (hI : Is w p sb ob wb n g) {S : Nat} (hc : capB (S : Int) = true) (hl : S < cntF g.on n) (ft : FuncId) (fc : Array Value) : Calls Tryd.prog 45 #[.pointer (some ⟨p, 0, none⟩), .int .i64 (S : Int), .func (.func ft) #[] fc] w fun e w' => e = .returned (.tuple #[.pointer none, .int .i64 12]) ∧ Below w.heap.size w w' := by
  have CE := Aside0.mk (fun w => empty_long hc hl w)
  clear hl
  have HS := Aside0.mk ((((Sep.nil w).new_blk #[.func (.func ft) #[] fc] 32).new_blk #[.pointer none] 25).new_blk #[.int .i64 0] 33)
  simp only [World.size_alloc] at HS
  obtain ⟨vs, hs⟩ := hI.below HS.out.below
  have CL := Aside0.mk (slen_any hs)
  clear hs vs hI hc
  refine callsIn_wide.1 (callsIn_of_wp_marks (n := 3) Tryd.func45 rfl trivial ?_ rfl)
  refine wpIn_wide.2 ?_
  simp only [Tryd.ntmps45, List.size_toArray, List.length_cons, List.length_nil, Nat.reduceAdd, Nat.reduceSub, Array.replicate_succ, Array.replicate_zero, List.push_toArray, List.append_toArray, List.nil_append, List.cons_append]
  go_wp2_with fail
  refine CL.out.mono ?_
  clear CL
  rintro e w1 ⟨rfl, hd⟩
  replace HS := Aside0.mk (HS.out.step hd.below)
  clear hd
  go_wp2_with fail
  refine (CE.out _).mono ?_
  clear CE
  rintro e w2 ⟨rfl, hb⟩
  replace HS := Aside0.mk (HS.out.step hb)
  clear hb
  replace HS := Aside0.mk ((HS.out.new_blk #[.pointer none] 25).new_blk #[.slice none 0 0] 22)
  simp only [World.size_alloc] at HS
  have f1 := blk_frozen (HS.out.blk 1 rfl) 0
  have f2 := blk_frozen (HS.out.blk 2 rfl) 0
  have c1 : (_ : Option Value) = some (.pointer none) := (blk_cell (HS.out.blk 1 rfl) 0).trans rfl
  have c2 : (_ : Option Value) = some (.int .i64 0) := (blk_cell (HS.out.blk 2 rfl) 0).trans rfl
  go_wp2
  have HS8 := (HS.out.turn_blk 1 rfl 0 (.pointer none)).turn_blk 2 rfl 0 (.int .i64 12)
  (try simp only [Exit.inBlock, Exit.then])
  refine leave0 (results_cc (t := 6) (u := 7) (ty := 25) (uy := 33) (b := w.heap.size + 1) (d := w.heap.size + 1 + 1) rfl rfl rfl ((blk_cell (HS8.blk 1 rfl) 0).trans rfl) ((blk_cell (HS8.blk 2 rfl) 0).trans rfl) (run_isAgg_plain Tryd.underlying25 rfl _) (run_isAgg_plain Tryd.underlying33 rfl _)) ⟨rfl, HS8.below⟩
end
/-- What Put makes, one behind the other: each slot's element is its place in the list. -/
def madeG (S : Nat) (l : List Int) : Nat → Gap
  | 0 => gap0 S
  | i + 1 => putS S (madeG S l i) (l.getD i 0) (i : Int)
theorem made_none {n : Int} {A : Option Addr} {c : Nat} {l : List Int} (h : 5000 < n ∨ 300 < l.length ∨ n < 1) (w : World) : Calls Tryd.prog 43 #[.agg #[.int .i64 n, .slice A l.length c]] w fun e w' => e = .returned (.pointer none) ∧ Below w.heap.size w w' := by
  have HS := Aside0.mk ((Sep.nil w).new_blk #[.int .i64 n, .slice A l.length c] 66)
  have c0 : (_ : Option Value) = some (.int .i64 n) := (blk_cell (HS.out.blk 0 rfl) 0).trans rfl
  have c1 : (_ : Option Value) = some (.slice A l.length c) := (blk_cell (HS.out.blk 0 rfl) 1).trans rfl
  by_cases h1 : 5000 < n
  · clear h
    have g1 : decide (5000 < n) = true := decide_eq_true h1
    go_enter Tryd.func43, Tryd.ntmps43
    go_wp2
    go_ret
    exact ⟨rfl, HS.out.below⟩
  · by_cases h2 : 300 < l.length
    · clear h
      have g1 : decide (5000 < n) = false := decide_eq_false h1
      go_enter Tryd.func43, Tryd.ntmps43
      go_wp2
      go_ret
      exact ⟨rfl, HS.out.below⟩
    · have C := Aside0.mk (fun w => gnew_no n w (by omega))
      clear h
      have g1 : decide (5000 < n) = false := decide_eq_false h1
      go_enter Tryd.func43, Tryd.ntmps43
      go_wp2_with fail
      refine (C.out _).mono ?_
      rintro e w1 ⟨rfl, rfl⟩
      go_wp2
      go_ret
      exact ⟨rfl, HS.out.below⟩
set_option maxHeartbeats 1000000 in
theorem made_yes {n : Nat} {A : Option Addr} {c : Nat} {l : List Int} {w : World} (hr : Kd.C (Kd.int .i64) w A l.length l) (h1 : 1 ≤ n) (h2 : n ≤ 5000) (h3 : l.length ≤ 300) : Calls Tryd.prog 43 #[.agg #[.int .i64 (n : Int), .slice A l.length c]] w fun e w' => ∃ p sb ob wb, e = .returned (.pointer (some ⟨p, 0, none⟩)) ∧ Sep w w' [S1.Arr p sb ob wb n (madeG n l l.length)] := by
  have HR := Aside0.mk hr
  have HS := Aside0.mk ((Sep.nil w).new_blk #[.int .i64 (n : Int), .slice A l.length c] 66)
  have c0 : (_ : Option Value) = some (.int .i64 (n : Int)) := (blk_cell (HS.out.blk 0 rfl) 0).trans rfl
  have c1 : (_ : Option Value) = some (.slice A l.length c) := (blk_cell (HS.out.blk 0 rfl) 1).trans rfl
  have C := Aside0.mk (fun w => gnew_yes n w h1 (by omega))
  have g1 : decide (5000 < (n : Int)) = false := decide_eq_false (by omega)
  have g2 : ¬ 5000 < (n : Int) := by omega
  have g3 : ¬ 300 < l.length := by omega
  clear hr h1 h2
  go_enter Tryd.func43, Tryd.ntmps43
  go_wp2_with fail
  refine (C.out _).mono ?_
  clear C c0 c1
  rintro e w1 ⟨p, sb, ob, wb, rfl, h4, hs, hb⟩
  replace HS := Aside0.mk (HS.out.new_arr (s := gap0 n) hb ⟨_, hs⟩ h4)
  clear h4 hs hb g1 g2
  have c1 : (_ : Option Value) = some (.slice A l.length c) := (blk_cell (HS.out.blk 0 rfl) 1).trans rfl
  go_wp2
  clear c1
  go_loopg [5] (l.length + 1) (fun kq v5 W => ∃ i : Nat, v5 = .int .i64 i ∧ i ≤ l.length ∧ Aside0 (l.length + 1 - i ≤ kq) ∧ Aside0 (Sep w W [S1.Blk w.heap.size #[.int .i64 (n : Int), .slice A l.length c] 66, S1.Arr p sb ob wb n (madeG n l i)]))
  case atStart => exact ⟨0, rfl, by omega, ⟨by omega⟩, HS⟩
  case round =>
    clear HS
    obtain ⟨i, rfl, hi, HQ, HS⟩ := hrel
    have c1 : (_ : Option Value) = some (.slice A l.length c) := (blk_cell (HS.out.blk 0 rfl) 1).trans rfl
    by_cases hlt : i < l.length
    · obtain ⟨ad, e, hx⟩ := Kd.at_int (Kd.C_below HR.out HS.out.below) (i : Int) (by omega) (by omega)
      cases e
      rw [Int.toNat_natCast, show rd l (i : Int) = l.getD i 0 from rfl] at hx
      have CP := Aside0.mk (put_any (HS.out.arr 1 rfl) (l.getD i 0) (i : Int))
      have HG := Aside0.mk (show madeG n l (i + 1) = putS n (madeG n l i) (l.getD i 0) (i : Int) from rfl)
      generalize l.getD i 0 = x at *
      go_wp2_with fail
      refine CP.out.mono ?_
      clear CP hx c1
      rintro e w3 ⟨rfl, h4, h5⟩
      replace HS := Aside0.mk (HS.out.turn_arr 1 rfl h5 h4)
      clear h4 h5
      go_wp2
      go_roundg (l.length - i)
      case measure => have := HQ.out; omega
      case rel => exact ⟨i + 1, by go_num, by omega, ⟨by omega⟩, ⟨by rw [HG.out]; exact HS.out⟩⟩
    · obtain rfl : i = l.length := by omega
      go_wp2
      go_ret
      exact ⟨p, sb, ob, wb, rfl, HS.out.tail⟩
end Go.Proofs.YtofkkdjbilklcaaDoor.Y9
