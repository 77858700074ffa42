/- Spreads gone through: the slots of so many elements. -/
import Derived.Test.YtofkkdjbilklcaaDoorS1
import Derived.Test.YtofkkdjbilklcaaDoorL1
import Derived.Stop.RegionWithIn
import Derived.Sort.CutIn
namespace Go.Proofs.YtofkkdjbilklcaaDoor.Y1
open Go.RowKit Go.Proofs.YtofkkdjbilklcaaDoorW.PrintWords Go.Proofs.YtofkkdjbilklcaaDoorW.PrintLast Go.Proofs.YtofkkdjbilklcaaDoorW.PrintMore Q1 S1
set_option linter.unusedVariables false
set_option linter.unusedSimpArgs false
attribute [local go_sem] Oper.semAt_some
theorem w64 {x : Int} (h : -9223372036854775808 ≤ x) (h2 : x ≤ 9223372036854775807) : wrap64 x = x := by
  simp [wrap64]; omega
def rightB (n s : Int) : Bool := decide (1 ≤ s ∧ s ≤ 512 ∧ 0 ≤ n ∧ n ≤ 8 * s)
theorem right_f (n s : Int) : spread_right.f n s = some (rightB n s) := by
  unfold spread_right.f spread_between.f rightB
  by_cases h1 : s ≥ 1
  · by_cases h2 : s ≤ 512
    · rw [if_pos h1, decide_eq_true h2]
      simp only [Option.bind_some, if_true]
      rw [w64 (by omega) (by omega)]
      by_cases h3 : n ≥ 0
      · rw [if_pos h3]
        simp only [Option.bind_some]
        congr 1
        by_cases h4 : n ≤ 8 * s
        · rw [decide_eq_true h4, decide_eq_true (by omega)]
        · rw [decide_eq_false h4, decide_eq_false (by omega)]
      · rw [if_neg h3]
        simp only [Option.bind_some]
        rw [decide_eq_false (by omega)]
    · rw [if_pos h1, decide_eq_false h2, show decide (1 ≤ s ∧ s ≤ 512 ∧ 0 ≤ n ∧ n ≤ 8 * s) = false from decide_eq_false (by omega)]
      rfl
  · rw [if_neg h1, show decide (1 ≤ s ∧ s ≤ 512 ∧ 0 ≤ n ∧ n ≤ 8 * s) = false from decide_eq_false (by omega)]
    rfl
theorem right_any (n s : Int) (w : World) : Calls Tryd.prog 121 #[.int .i64 n, .int .i64 s] w fun e w' => e = .returned (.bool (rightB n s)) ∧ Drawn0 w w' := spread_right.calls n s _ w (right_f n s)
theorem between_any (n a b : Int) (w : World) : Calls Tryd.prog 122 #[.int .i64 n, .int .i64 a, .int .i64 b] w fun e w' => e = .returned (.bool (decide (a ≤ n ∧ n ≤ b))) ∧ Drawn0 w w' := by
  refine spread_between.calls n a b _ w ?_
  unfold spread_between.f
  by_cases h : n ≥ a
  · rw [if_pos h]
    congr 1
    by_cases h2 : n ≤ b
    · rw [decide_eq_true h2, decide_eq_true ⟨h, h2⟩]
    · rw [decide_eq_false h2, decide_eq_false (fun c => h2 c.2)]
  · rw [if_neg h, decide_eq_false (fun c => h c.1)]
theorem ahead1_any {w : World} {nb sb : Nat} {n s k : Nat} (hn : w.heap[nb]? = some (.cells #[.int .i64 n] 3 (0, 0))) (hs : w.heap[sb]? = some (.cells #[.int .i64 s] 3 (0, 0))) (h1 : 1 ≤ s) (h2 : s ≤ 512) (h3 : n ≤ 4096) (h4 : k ≤ 512) :
    Calls Tryd.prog 139 #[.int .i64 k, .pointer (some ⟨nb, 0, none⟩), .pointer (some ⟨sb, 0, none⟩)] w fun e w' => e = .returned (.int .i64 (k * n / s : Nat)) ∧ w = w' := by
  have c0 : w.cell? ⟨nb, 0, none⟩ = some (.int .i64 n) := (blk_cell hn 0).trans rfl
  have c1 : w.cell? ⟨sb, 0, none⟩ = some (.int .i64 s) := (blk_cell hs 0).trans rfl
  have hm : k * n ≤ 512 * 4096 := Nat.mul_le_mul h4 h3
  have q1 : (0 : Int) ≤ (k : Int) * (n : Int) := by have : ((k * n : Nat) : Int) = (k : Int) * (n : Int) := Int.natCast_mul k n; omega
  have q2 : (k : Int) * (n : Int) ≤ 2097152 := by have : ((k * n : Nat) : Int) = (k : Int) * (n : Int) := Int.natCast_mul k n; omega
  have E := Aside0.mk (show ((k * n / s : Nat) : Int) = (k : Int) * (n : Int) / (s : Int) by rw [Int.natCast_ediv, Int.natCast_mul])
  clear hn hs hm
  go_enter Tryd.func139, Tryd.ntmps139
  go_wp2
  go_ret
  refine ⟨?_, rfl⟩
  rw [E.out]
  rfl
theorem ahead_any (n s : Int) (w : World) : Calls Tryd.prog 124 #[.int .i64 n, .int .i64 s] w fun e w' => e = .returned (.func (.func 139) #[] #[.pointer (some ⟨w.heap.size, 0, none⟩), .pointer (some ⟨w.heap.size + 1, 0, none⟩)]) ∧ (w.alloc (.cells #[.int .i64 n] 3)).alloc (.cells #[.int .i64 s] 3) = w' := by
  go_enter Tryd.func124, Tryd.ntmps124
  go_wp2
  go_ret
  exact ⟨rfl, rfl⟩
/-- How many come into a segment. -/
def shr (n s k : Nat) : Nat := (k + 1) * n / s - k * n / s
theorem shr_le {n s k : Nat} (h1 : 1 ≤ s) : k * n / s ≤ (k + 1) * n / s := Nat.div_le_div_right (Nat.mul_le_mul_right n (by omega))
/-- How many are in a segment, as the code counts them. -/
def shI (n s k : Nat) : Int := (((k + 1) * n / s : Nat) : Int) - ((k * n / s : Nat) : Int)
/-- The slot of one of them. -/
def plV (n s f k j : Nat) : Int := 8 * ((f : Int) + (k : Int)) + ((j : Int) * 8) / shI n s k
/-- The slots of some in a segment, of the segments ahead of one, and of all. -/
def plJ (n s f k j : Nat) : List Int := (List.range j).map fun i => plV n s f k i
def plK (n s f : Nat) : Nat → List Int
  | 0 => []
  | k + 1 => plK n s f k ++ plJ n s f k (shr n s k)
theorem plJ_len (n s f k j : Nat) : (plJ n s f k j).length = j := by simp [plJ]
theorem plJ_succ (n s f k j : Nat) : plJ n s f k (j + 1) = plJ n s f k j ++ [plV n s f k j] := by simp [plJ, List.range_succ]
theorem plK_len {n s : Nat} (f : Nat) (h1 : 1 ≤ s) : ∀ k, (plK n s f k).length = k * n / s
  | 0 => by simp [plK]
  | k + 1 => by
    have := shr_le (n := n) (k := k) h1
    rw [plK, List.length_append, plJ_len, plK_len f h1 k]
    unfold shr
    omega
theorem div_top {n s k : Nat} (h1 : 1 ≤ s) (hk : k ≤ s) : k * n / s ≤ n := by
  have : k * n / s ≤ s * n / s := Nat.div_le_div_right (Nat.mul_le_mul_right n hk)
  rwa [Nat.mul_div_cancel_left n (by omega)] at this
/-- Blocks of cells stay, but for some. -/
def Kp (S : Nat → Prop) (A B : World) : Prop := ∀ k cs t, ¬ S k → A.heap[k]? = some (.cells cs t (0, 0)) → B.heap[k]? = some (.cells cs t (0, 0))
theorem Kp.refl (S : Nat → Prop) (A : World) : Kp S A A := fun _ _ _ _ h => h
theorem Kp.trans {S : Nat → Prop} {A B C : World} (h : Kp S A B) (k : Kp S B C) : Kp S A C := fun i cs t hi e => k i cs t hi (h i cs t hi e)
theorem grown_drew (W : World) : W.grownBy W.drew none := ⟨rfl, rfl, rfl, Nat.le_refl _, fun _ _ _ => rfl⟩
def leftS (n : Nat) : Value → Nat
  | .int _ (.ofNat t) => n - t
  | _ => 0
theorem leftS_at (n t : Nat) : leftS n (.int .i64 (t : Int)) = n - t := rfl
set_option maxRecDepth 100000 in
set_option maxHeartbeats 4000000 in
theorem sp1_in (m : Nat) (hm : 1 ≤ m) (l : Nat) {nb sb fb n s f : Nat} (h1 : 1 ≤ s) (h2 : s ≤ 512) (h3 : n ≤ 8 * s) (h4 : f ≤ 512) (S : Nat → Prop) (hN : ¬ S nb ∧ ¬ S sb ∧ ¬ S fb) (J Jx : List Int → World → Prop)
    (hJ : ∀ pre W W', J pre W → W.grownBy W' none → J pre W')
    (hY : ∀ pre (x : Int) W, J pre W → pre.length < n → YieldAt Fence.wide (m - 1) Tryd.prog l #[.int .i64 x] W fun e W' =>
      (e = .returned (.bool true) ∧ J (pre ++ [x]) W' ∧ Kp S W W') ∨ (e = .returned (.bool false) ∧ Jx (pre ++ [x]) W'))
    (W : World) (hS : ∀ k, S k → k < W.heap.size) (hn : W.heap[nb]? = some (.cells #[.int .i64 n] 3 (0, 0))) (hs : W.heap[sb]? = some (.cells #[.int .i64 s] 3 (0, 0))) (hf : W.heap[fb]? = some (.cells #[.int .i64 f] 3 (0, 0))) (h0 : J [] W) :
    CallsIn Fence.wide m Tryd.prog 123 #[.func (.yield l) #[] #[], .pointer (some ⟨nb, 0, none⟩), .pointer (some ⟨sb, 0, none⟩), .pointer (some ⟨fb, 0, none⟩)] W fun e W' => (∃ v, e = .returned v) ∧
      ((∃ ys, ys = plK n s f s ∧ J ys W') ∨ (∃ pre, True ∧ Jx pre W')) := by
  have HJ := Aside0.mk hJ
  have HY := Aside0.mk hY
  have HN := Aside0.mk hN
  have B2 := below_alloc (below_alloc (Below.refl W.heap.size W) (.cells #[.int .i64 n] 3)) (.cells #[.int .i64 s] 3)
  have HJ0 := Aside0.mk (hJ _ _ ((W.alloc (.cells #[.int .i64 n] 3)).alloc (.cells #[.int .i64 s] 3)) h0 ((World.grownBy_alloc W _ none).trans (World.grownBy_alloc _ _ none)))
  have HF0 := Aside0.mk (blk_below hf B2)
  have k1 := blk_new W (.cells #[.int .i64 n] 3)
  have k2 := blk_new (W.alloc (.cells #[.int .i64 n] 3)) (.cells #[.int .i64 s] 3)
  have HA0 := Aside0.mk (blk_alloc k1 (.cells #[.int .i64 s] 3))
  simp only [World.size_alloc] at k2
  have HB0 := Aside0.mk k2
  have HA1 := Aside0.mk (show ¬ S W.heap.size ∧ ¬ S (W.heap.size + 1) from ⟨fun h => by have := hS _ h; omega, fun h => by have := hS _ h; omega⟩)
  have c0 : W.cell? ⟨nb, 0, none⟩ = some (.int .i64 n) := (blk_cell hn 0).trans rfl
  have c1 : W.cell? ⟨sb, 0, none⟩ = some (.int .i64 s) := (blk_cell hs 0).trans rfl
  have hs2 := blk_below hs B2
  have d1 : ((W.alloc (.cells #[.int .i64 n] 3)).alloc (.cells #[.int .i64 s] 3)).cell? ⟨sb, 0, none⟩ = some (.int .i64 s) := (blk_cell hs2 0).trans rfl
  clear hJ hY hN hn hs hf h0 k1 k2 hS hs2 B2
  refine callsIn_of_wp Tryd.func123 rfl trivial ?_ rfl
  simp only [Tryd.ntmps123, List.size_toArray, List.length_cons, List.length_nil, Nat.reduceAdd, Nat.reduceSub, Array.replicate_succ, Array.replicate_zero, List.push_toArray, List.append_toArray, List.nil_append, List.cons_append]
  gi_wp2_with (refine ⟨trivial, ?_⟩; gi_at_call 124; refine (callsIn_wide.2 (ahead_any n s W)).mono ?_; rintro e w' ⟨rfl, rfl⟩)
  clear c0 c1 d1
  generalize hab : W.heap.size = ab at *
  generalize (W.alloc (.cells #[.int .i64 n] 3)).alloc (.cells #[.int .i64 s] 3) = w0 at *
  gi_loopw [13] (fun i wr => ∃ k : Nat, k ≤ s ∧ i = .int .i64 (k : Int) ∧ Aside0 (J (plK n s f k) wr) ∧ Aside0 (wr.heap[ab]? = some (.cells #[.int .i64 n] 3 (0, 0))) ∧ Aside0 (wr.heap[ab + 1]? = some (.cells #[.int .i64 s] 3 (0, 0))) ∧ Aside0 (wr.heap[fb]? = some (.cells #[.int .i64 f] 3 (0, 0))))
    (fun i _ => leftS s i)
  case atStart => exact ⟨0, by omega, rfl, HJ0, HA0, HB0, HF0⟩
  case round =>
    clear HJ0 HA0 HB0 HF0
    obtain ⟨k, hk, rfl, HJ1, HA, HB, HF⟩ := hrel
    by_cases hlt : k < s
    · have C1 := Aside0.mk (ahead1_any (k := k + 1) HA.out HB.out h1 h2 (by omega) (by omega))
      have C2 := Aside0.mk (ahead1_any (k := k) HA.out HB.out h1 h2 (by omega) (by omega))
      have hle := shr_le (n := n) (k := k) h1
      have htop := div_top (n := n) (k := k + 1) h1 (by omega)
      have hlen := plK_len (n := n) f h1 k
      have HE := Aside0.mk (show shI n s k = (((k + 1) * n / s : Nat) : Int) - ((k * n / s : Nat) : Int) from rfl)
      have HR := Aside0.mk (show shr n s k = (k + 1) * n / s - k * n / s from rfl)
      generalize (k + 1) * n / s = a at *
      generalize k * n / s = b at *
      have ek : (((k + 1 : Nat) : Int)) = (k : Int) + 1 := by omega
      rw [ek] at C1
      gi_wp2_with (refine ⟨trivial, ?_⟩; gi_at_call 139; (first | refine (callsIn_wide.2 C1.out).mono ?_ | refine (callsIn_wide.2 C2.out).mono ?_); rintro e w' ⟨rfl, rfl⟩)
      obtain ⟨q, rfl⟩ : ∃ q, a = b + q := ⟨a - b, by omega⟩
      have hq : shr n s k = q := by rw [HR.out]; omega
      have eq : ((b + q : Nat) : Int) - (b : Int) = (q : Int) := by omega
      have HQ := Aside0.mk (show shI n s k = (q : Int) by rw [HE.out]; omega)
      clear C1 C2 hle ek HR HE
      rw [eq] at *
      gi_wp2
      gi_loopw [25] (fun i wr => ∃ j : Nat, j ≤ q ∧ i = .int .i64 (j : Int) ∧ Aside0 (J (plK n s f k ++ plJ n s f k j) wr) ∧ Aside0 (wr.heap[ab]? = some (.cells #[.int .i64 n] 3 (0, 0))) ∧ Aside0 (wr.heap[ab + 1]? = some (.cells #[.int .i64 s] 3 (0, 0))) ∧ Aside0 (wr.heap[fb]? = some (.cells #[.int .i64 f] 3 (0, 0))))
        (fun i _ => leftS q i)
      case atStart => exact ⟨0, by omega, rfl, ⟨by rw [show plJ n s f k 0 = [] from rfl, List.append_nil]; exact HJ1.out⟩, HA, HB, HF⟩
      case round =>
        clear HJ1 HA HB HF
        obtain ⟨j, hj, rfl, HJ1, HA, HB, HF⟩ := hrel
        by_cases hlt2 : j < q
        · have c0 : (_ : Option Value) = some (.int .i64 f) := (blk_cell HF.out 0).trans rfl
          have q0 : ((q : Int) == 0) = false := beq_eq_false_iff_ne.2 (by omega)
          have qn : (q : Int) ≠ 0 := by omega
          gi_wp2
          obtain ⟨fn, tmps, assign, body, hy, hR⟩ := HY.out _ (plV n s f k j) wr.drew (HJ.out _ _ _ HJ1.out (grown_drew wr)) (by rw [List.length_append, hlen, plJ_len]; omega)
          have HR := Aside0.mk (hR.mono (R' := fun e W' => ∃ b, e = .returned (.bool b) ∧ Aside0 ((b = true ∧ J (plK n s f k ++ plJ n s f k j ++ [plV n s f k j]) W' ∧ Kp S wr.drew W') ∨ (b = false ∧ Jx (plK n s f k ++ plJ n s f k j ++ [plV n s f k j]) W'))) (by
            rintro e W3 (⟨rfl, hJ3, hk3⟩ | ⟨rfl, hJx3⟩)
            · exact ⟨true, rfl, ⟨.inl ⟨rfl, hJ3, hk3⟩⟩⟩
            · exact ⟨false, rfl, ⟨.inr ⟨rfl, hJx3⟩⟩⟩))
          clear hR
          have EV : plV n s f k j = 8 * ((f : Int) + (k : Int)) + (j : Int) * 8 / (q : Int) := by unfold plV; rw [HQ.out]
          rw [EV] at hy
          have c2 : wr.drew.cell? ⟨fb, 0, none⟩ = some (.int .i64 f) := c0
          have a0 : IntKind.i64.wrap ((f : Int) + (k : Int)) = (f : Int) + (k : Int) := by rw [IntKind.wrap_i64]; omega
          have a1 : IntKind.i64.wrap (8 * ((f : Int) + (k : Int))) = 8 * ((f : Int) + (k : Int)) := by rw [IntKind.wrap_i64]; omega
          have a2 : IntKind.i64.wrap ((j : Int) * 8) = (j : Int) * 8 := by rw [IntKind.wrap_i64]; omega
          have a3 : ((j : Int) * 8).tdiv (q : Int) = (j : Int) * 8 / (q : Int) := Int.tdiv_eq_ediv_of_nonneg (by omega)
          have b1 : (0 : Int) ≤ (j : Int) * 8 / (q : Int) := Int.ediv_nonneg (by omega) (by omega)
          have b2 : (j : Int) * 8 / (q : Int) ≤ (j : Int) * 8 := Int.ediv_le_self _ (by omega)
          have a4 : IntKind.i64.wrap ((j : Int) * 8 / (q : Int)) = (j : Int) * 8 / (q : Int) := by rw [IntKind.wrap_i64]; omega
          have a5 : IntKind.i64.wrap (8 * ((f : Int) + (k : Int)) + (j : Int) * 8 / (q : Int)) = 8 * ((f : Int) + (k : Int)) + (j : Int) * 8 / (q : Int) := by rw [IntKind.wrap_i64]; omega
          gi_region_with (refine HR.out.mono ?_; rintro e W3 ⟨bb, rfl, HBB⟩)
          all_goals
            clear EV c0 c2 a0 a1 a2 a3 a4 a5 b1 b2 hy HR q0
            rcases HBB.out with ⟨rfl, hJ3, hk3⟩ | ⟨rfl, hJx3⟩
            · have HJ3 := Aside0.mk hJ3
              have HA3 := Aside0.mk (hk3 ab _ _ HA1.out.1 HA.out)
              have HB3 := Aside0.mk (hk3 (ab + 1) _ _ HA1.out.2 HB.out)
              have HF3 := Aside0.mk (hk3 fb _ _ HN.out.2.2 HF.out)
              clear hJ3 hk3 HBB HJ1 HA HB HF qn
              gi_wp2
              go_roundw
              case rel => exact ⟨j + 1, by omega, by go_num, ⟨by rw [plJ_succ, ← List.append_assoc]; exact HJ3.out⟩, HA3, HB3, HF3⟩
              case measure => rw [show ((j : Int) + 1) = ((j + 1 : Nat) : Int) by omega, leftS_at, leftS_at]; omega
            · have HX := Aside0.mk hJx3
              clear hJx3 HBB HJ1 HA HB HF qn
              gi_wp2
              refine bodyPost_ret (results_none rfl _ _ _) rfl ?_
              exact ⟨⟨_, rfl⟩, .inr ⟨_, trivial, HX.out⟩⟩
        · obtain rfl : j = q := by omega
          gi_wp2
          go_roundw
          case rel => exact ⟨k + 1, by omega, by go_num, ⟨by rw [plK, hq]; exact HJ1.out⟩, HA, HB, HF⟩
          case measure => rw [show ((k : Int) + 1) = ((k + 1 : Nat) : Int) by omega, leftS_at, leftS_at]; omega
    · obtain rfl : k = s := by omega
      gi_wp2
      go_end0
      exact ⟨⟨_, rfl⟩, .inl ⟨_, rfl, HJ1.out⟩⟩

theorem sp_stops (m : Nat) (hm : 1 ≤ m) {nb sb fb n s f : Nat} (h1 : 1 ≤ s) (h2 : s ≤ 512) (h3 : n ≤ 8 * s) (h4 : f ≤ 512) (S : Nat → Prop) (hN : ¬ S nb ∧ ¬ S sb ∧ ¬ S fb) {w : World} (hS : ∀ k, S k → k < w.heap.size)
    (hn : w.heap[nb]? = some (.cells #[.int .i64 n] 3 (0, 0))) (hs : w.heap[sb]? = some (.cells #[.int .i64 s] 3 (0, 0))) (hf : w.heap[fb]? = some (.cells #[.int .i64 f] 3 (0, 0))) :
    SeqStopsK Fence.wide m Tryd.prog 123 #[.pointer (some ⟨nb, 0, none⟩), .pointer (some ⟨sb, 0, none⟩), .pointer (some ⟨fb, 0, none⟩)] (fun x : Int => #[.int .i64 x]) (Kp S) (fun ys => ys = plK n s f s) (fun _ => True) n w := fun l J Jx W hW hJ hJx hY h0 =>
  sp1_in m hm l h1 h2 h3 h4 S hN J Jx (fun pre W W' h hg => hJ _ _ _ none h hg (fun r e => by cases e)) hY W (fun k hk => Nat.lt_of_lt_of_le (hS k hk) hW.size) (blk_below hn hW) (blk_below hs hW) (blk_below hf hW) h0
theorem spp_any (n f s : Int) (w : World) : Calls Tryd.prog 86 #[.int .i64 n, .int .i64 f, .int .i64 s] w fun e w' => e = .returned (.func (.func 123) #[] #[.pointer (some ⟨w.heap.size, 0, none⟩), .pointer (some ⟨w.heap.size + 2, 0, none⟩), .pointer (some ⟨w.heap.size + 1, 0, none⟩)]) ∧ ((w.alloc (.cells #[.int .i64 n] 3)).alloc (.cells #[.int .i64 f] 3)).alloc (.cells #[.int .i64 s] 3) = w' := by
  go_enter Tryd.func86, Tryd.ntmps86
  go_wp2
  go_ret
  exact ⟨rfl, rfl⟩
theorem check_yes {n s f : Nat} (h1 : 1 ≤ s) (h3 : n ≤ 8 * s) (h4 : f + s ≤ 512) (w : World) : Calls Tryd.prog 85 #[.int .i64 n, .int .i64 f, .int .i64 s] w fun e w' => e = .returned (.int .i64 0) ∧ Drawn0 w w' := by
  refine spread_check.calls n f s _ w ?_
  unfold spread_check.f
  rw [right_f]
  have hb : rightB (n : Int) (s : Int) = true := decide_eq_true (by omega)
  rw [hb, Option.bind_some, if_pos rfl, w64 (by omega) (by omega)]
  unfold spread_between.f
  rw [if_pos (show (f : Int) ≥ 0 by omega), decide_eq_true (show (f : Int) ≤ 512 - (s : Int) by omega)]
  rfl
theorem make_cap (n : Nat) (hn : n ≤ 1000000) : ∀ W : World, (Instr.makeSlice 22 (.int .i64 0) (.int .i64 (n : Int))).run Tryd.prog W = .ok (.slice (some ⟨W.heap.size, 0, none⟩) 0 n) (W.alloc (.cells (madeCells #[.int .i64 0] n) 3)) := by
  intro W
  obtain ⟨i0, hi, hz0, hz1, hz2⟩ := info_parts G9.info3
  have h := run_make (P := Tryd.prog) W 22 3 i0 (.int .i64 0) Tryd.underlying22 hi hz0 .i64 .i64 0 n (Int.le_refl _) (by omega) (by rw [hz2]; omega) (by omega)
  rw [hz1] at h
  simpa [Value.cells] using h
set_option maxRecDepth 100000 in
set_option maxHeartbeats 4000000 in
theorem spl_in (m : Nat) (hm : 3 ≤ m) {n s f : Nat} (h1 : 1 ≤ s) (h3 : n ≤ 8 * s) (h4 : f + s ≤ 512) (w : World) :
    CallsIn Fence.wide m Tryd.prog 40 #[.int .i64 n, .int .i64 f, .int .i64 s] w fun e W' => ∃ v, e = .returned (.tuple #[v, .int .i64 0]) ∧ W'.ownsRow w.heap.size 3 1 v n (nums .i64 (plK n s f s)) ∧ Below w.heap.size w W' := by
  have hm1 : 1 ≤ m := by omega
  have hlen := plK_len (n := n) f h1 s
  rw [show s * n / s = n from Nat.mul_div_cancel_left n (by omega)] at hlen
  obtain ⟨i0, hi, hz0', hz1, hz2⟩ := info_parts G9.info3
  have HMK := make_cap n (by omega)
  refine callsIn_of_wp_marks Tryd.func40 rfl trivial ?_ rfl
  simp only [Tryd.ntmps40, List.size_toArray, List.length_cons, List.length_nil, Nat.reduceAdd, Nat.reduceSub, Array.replicate_succ, Array.replicate_zero, List.push_toArray, List.append_toArray, List.nil_append, List.cons_append]
  gi_wp2_with (first
    | (refine ⟨trivial, ?_⟩; gi_at_call 85; refine (callsIn_wide.2 (check_yes h1 h3 h4 _)).mono ?_; rintro e W0 ⟨rfl, hd⟩; have HD := Aside0.mk hd.below; clear hd)
    | (refine ⟨trivial, ?_⟩; gi_at_call 86; refine (callsIn_wide.2 (spp_any n f s _)).mono ?_; rintro e w' ⟨rfl, rfl⟩))
  obtain ⟨z, hz⟩ : ∃ z, W0.heap.size = z := ⟨_, rfl⟩
  obtain ⟨w5, hw5⟩ : ∃ w5, ((((W0.alloc (.cells (madeCells #[.int .i64 0] n) 3)).alloc (.cells #[.slice (some ⟨z, 0, none⟩) 0 n] 22)).alloc (.cells #[.int .i64 n] 3)).alloc (.cells #[.int .i64 f] 3)).alloc (.cells #[.int .i64 s] 3) = w5 := ⟨_, rfl⟩
  have sz5 : w5.heap.size = z + 5 := by rw [← hw5]; simp [hz]
  have hB5 : Below z W0 w5 := by
    rw [← hw5, ← hz]
    exact below_alloc (below_alloc (below_alloc (below_alloc (below_alloc (Below.refl _ W0) _) _) _) _) _
  have bO : Boxed w5 (z + 1) 22 (.slice (some ⟨z, 0, none⟩) 0 n) := by
    rw [← hw5, show z + 1 = (W0.alloc (.cells (madeCells #[.int .i64 0] n) 3)).heap.size by simp [hz]]
    exact (((Boxed.new (W0.alloc (.cells (madeCells #[.int .i64 0] n) 3)) 22 (.slice (some ⟨z, 0, none⟩) 0 n)).alloc _).alloc _).alloc _
  have hO : w5.ownsRow z 3 1 (.slice (some ⟨z, 0, none⟩) 0 n) 0 [] := by
    have h := World.ownsRow_made (e := 3) (size := 1) W0 (madeCells #[.int .i64 0] n) n (base := z) (by omega) (by unfold maxLen; omega) (by rw [size_madeCells]; simp)
    rw [hz] at h
    rw [← hw5]
    exact (((h.alloc _).alloc _).alloc _).alloc _
  have hn5 : w5.heap[z + 2]? = some (.cells #[.int .i64 n] 3 (0, 0)) := by
    have h := blk_new ((W0.alloc (.cells (madeCells #[.int .i64 0] n) 3)).alloc (.cells #[.slice (some ⟨z, 0, none⟩) 0 n] 22)) (.cells #[.int .i64 n] 3)
    simp only [World.size_alloc, hz] at h
    rw [← hw5]
    exact blk_alloc (blk_alloc h _) _
  have hf5 : w5.heap[z + 3]? = some (.cells #[.int .i64 f] 3 (0, 0)) := by
    have h := blk_new (((W0.alloc (.cells (madeCells #[.int .i64 0] n) 3)).alloc (.cells #[.slice (some ⟨z, 0, none⟩) 0 n] 22)).alloc (.cells #[.int .i64 n] 3)) (.cells #[.int .i64 f] 3)
    simp only [World.size_alloc, hz] at h
    rw [← hw5]
    exact blk_alloc h _
  have hs5 : w5.heap[z + 4]? = some (.cells #[.int .i64 s] 3 (0, 0)) := by
    have h := blk_new ((((W0.alloc (.cells (madeCells #[.int .i64 0] n) 3)).alloc (.cells #[.slice (some ⟨z, 0, none⟩) 0 n] 22)).alloc (.cells #[.int .i64 n] 3)).alloc (.cells #[.int .i64 f] 3)) (.cells #[.int .i64 s] 3)
    simp only [World.size_alloc, hz] at h
    rw [← hw5]
    exact h
  rw [hz, hw5]
  clear HMK
  have hwz : w.heap.size ≤ z := by rw [← hz]; exact HD.out.size
  have hBw := below_step HD.out (by rw [hz]; exact hB5)
  clear hw5 hB5
  refine wpIn_rangeFunc_ownG rfl hm1 (gf := 123) (lb := #[.pointer (some ⟨z + 2, 0, none⟩), .pointer (some ⟨z + 4, 0, none⟩), .pointer (some ⟨z + 3, 0, none⟩)]) rfl trivial (enters_of Tryd.func123 (by kernel_rfl) rfl)
    (sp_stops (m - 1) (by omega) h1 (by omega) h3 (by omega) (fun k => k = z ∨ k = z + 1) ⟨by omega, by omega, by omega⟩ (by rintro k (rfl | rfl) <;> omega) hn5 hs5 hf5) Kp.trans ?kb (Below.refl _ _) (fun _ => rfl)
    (fun pre W => (∃ v, Boxed W (z + 1) 22 v ∧ W.ownsRow z 3 1 v pre.length (nums .i64 pre) ∧ v = .slice (some ⟨z, 0, none⟩) pre.length n) ∧ Below w.heap.size w W ∧ z + 5 ≤ W.heap.size)
    (fun _ _ _ => False)
    (OwnFrom.and (Own.from (holdsRow_own z (z + 1) 22 3 1 (fun pre : List Int => pre.length) (fun pre => nums .i64 pre) (fun pre v => v = .slice (some ⟨z, 0, none⟩) pre.length n)) _) (OwnFrom.and (ownFrom_below (Nat.le_refl _) (by omega)) (fun s W W' row h hg hr => Nat.le_trans h hg.size)))
    (fun _ _ _ _ _ hs _ _ => hs)
    ⟨⟨_, bO, hO, rfl⟩, hBw, by omega⟩
    (fun x => { tmps := #[.int .i64 n, .int .i64 f, .int .i64 s, undef, undef, undef, .slice none 0 0, .int .i64 0, .int .i64 0, .pointer (some ⟨z + 1, 0, none⟩), .int .i64 x, .int .i64 n, .int .i64 f, .int .i64 s, .int .i64 0, .int .i64 0, .bool false, undef, .int .i64 n, .slice (some ⟨z, 0, none⟩) 0 n, .int .i64 n, .int .i64 f, .int .i64 s, .func (.func 123) #[] #[.pointer (some ⟨z + 2, 0, none⟩), .pointer (some ⟨z + 4, 0, none⟩), .pointer (some ⟨z + 3, 0, none⟩)], .int .i64 x, undef, undef, undef, undef, undef], defers := [] }) ?assign ?body ?done ?stop
  case kb =>
    intro W l o o' hl hg hc hw k cs t hk hh
    have hne : k ≠ l := fun e => by subst e; rw [hh] at hg; cases hg; cases hc
    rw [World.putObj_heap_other hne]
    exact hh
  case assign =>
    intro l x W K hK
    gi_wp2
    exact hK
  case body =>
    rintro l pre x W ⟨⟨v, hv, hrow, rfl⟩, hB, hsz⟩ hlt
    have hc := hv.cell
    have EV : Aside0 (nums .i64 (pre ++ [x]) = nums .i64 pre ++ [.int .i64 x]) := ⟨by simp [nums]⟩
    gi_wp2_with (gi_at_builtin; refine wpListIn_append_fits _ rfl _ _ 22 rfl z 3 i0 1 Tryd.underlying22 hi hz1 z pre.length n _ rfl (hrow.alloc _) ⟨W.heap.size, 0, none⟩ 1 1 [.int .i64 x] rfl rfl (cell_one_new _ _ _) (by simp [Value.oneCell']) (by omega) ?_; intro w1 hown' hgrow; obtain ⟨hv1, hv2, hr2, hk2, hb2⟩ := hv.appended (by decide) hrow (by omega) (by omega) hown' hgrow; have hc1 := hv1.cell; have hf1 := hv1.frozen)
    have hst : Kp (fun k => k = z ∨ k = z + 1) W (w1.setCell ⟨z + 1, 0, none⟩ (.slice (some ⟨z, 0, none⟩) (pre.length + 1) n)) := by
      intro k cs t hk hh
      have hk1 : k ≠ z := fun e => hk (.inl e)
      have hk3 : k ≠ z + 1 := fun e => hk (.inr e)
      have hlt := blk_lt hh
      rw [Below.heap_setCell _ _ _ _ hk3, hgrow.block k (by simp; omega) (fun e => hk1 (Option.some.inj e))]
      exact (Below.heap_alloc W _ k (by omega)).trans hh
    refine ⟨hk2.from _, hst, ⟨_, hv2, ?_, by rw [List.length_append]; rfl⟩, hB.trans (hb2.mono hwz), Nat.le_trans hsz hb2.size⟩
    rw [List.length_append, EV.out]
    exact hr2
  case done =>
    rintro D ys W hD rfl ⟨⟨v, hv, hrow, rfl⟩, hB, hsz⟩ hK
    have hc := hv.cell
    gi_wp2
    refine ⟨by simp, .inl ⟨_, _, rfl, run_takeDeferred hK, ?_⟩⟩
    rw [hlen] at hrow
    refine ⟨_, results_tmp2 rfl _ _ _, .slice (some ⟨z, 0, none⟩) n n, rfl, G9.own_low (ownsRow_putObj hrow _ hK rfl) hwz, hB.trans (belowK_b (w := w) (Nat.le_refl _) W D _ _ (by omega) hK rfl rfl)⟩
  case stop =>
    rintro D c pre W _ _ h _
    exact h.elim
/-- **The slots of a spread.** -/
theorem spl_any {n s f : Nat} (h1 : 1 ≤ s) (h3 : n ≤ 8 * s) (h4 : f + s ≤ 512) (w : World) :
    Calls Tryd.prog 40 #[.int .i64 n, .int .i64 f, .int .i64 s] w fun e w' => ∃ A c, e = .returned (.tuple #[.slice A n c, .int .i64 0]) ∧ n ≤ c ∧ Kd.C (Kd.int .i64) w' A n (plK n s f s) ∧ w'.ownsRow w.heap.size 3 1 (.slice A n c) n (nums .i64 (plK n s f s)) ∧ Below w.heap.size w w' := by
  refine (callsIn_wide.1 (spl_in 3 (by omega) h1 h3 h4 w)).mono ?_
  rintro e w' ⟨v, rfl, hrow, hb⟩
  obtain ⟨A, c, rfl, g1, g2⟩ := G9.own_C hrow
  exact ⟨A, c, rfl, g1, g2, hrow, hb⟩
end Go.Proofs.YtofkkdjbilklcaaDoor.Y1
