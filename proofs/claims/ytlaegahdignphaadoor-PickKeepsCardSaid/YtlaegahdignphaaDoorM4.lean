/- The windows that have a segment, gone through. -/
import Derived.Test.YtlaegahdignphaaDoorM3
namespace Go.Proofs.YtlaegahdignphaaDoor.M4
open Go.RowKit Go.Shelf Go.Proofs.YtlaegahdignphaaDoorW.PrintWords Go.Proofs.YtlaegahdignphaaDoorW.PrintLast Go.Proofs.YtlaegahdignphaaDoorW.PrintMore Q2 L1 L3 S1 M1 M2 M3
set_option linter.unusedVariables false
set_option linter.unusedSimpArgs false
attribute [local go_sem] Oper.semAt_some

theorem windows_any (s h : Int) (w : World) : Calls Tryd.prog 75 #[.int .i64 s, .int .i64 h] w fun e w' => e = .returned (.func (.func 82) #[] #[.pointer (some ⟨w.heap.size + 1, 0, none⟩), .pointer (some ⟨w.heap.size, 0, none⟩)]) ∧ (w.alloc (.cells #[.int .i64 s] 3)).alloc (.cells #[.int .i64 h] 3) = w' := by
  go_enter Tryd.func75, Tryd.ntmps75
  go_wp2
  go_ret
  exact ⟨rfl, rfl⟩
/-- How many segments a window of a level has. -/
def pw (k : Nat) : Nat := 2 ^ k
theorem window_nat {s k : Nat} (hs : s < 512) (hk : k ≤ 9) (w : World) : Calls Tryd.prog 24 #[.int .i64 s, .int .i64 k] w fun e w' => e = .returned (.tuple #[.int .i64 (wF s k : Nat), .int .i64 (pw k : Nat), .int .i64 0]) ∧ Drawn0 w w' := by
  have h := window_any (s : Int) (k : Int) w
  have hb : winB (s : Int) (k : Int) = true := decide_eq_true (by omega)
  unfold winF winM winE at h
  rw [hb, if_pos rfl, if_pos rfl, if_pos rfl, wFirst_nat, wMany_nat] at h
  exact h
def winV (s k : Nat) : Value := .agg #[.int .i64 k, .int .i64 (wF s k : Nat), .int .i64 (pw k : Nat)]
theorem fin_take {h j : Nat} (hj : j < h) : (List.finRange h).take (j + 1) = (List.finRange h).take j ++ [⟨j, hj⟩] := by
  rw [List.take_succ_eq_append_getElem (by simpa using hj)]
  simp
def leftW (n : Nat) : Value → Nat
  | .int _ (.ofNat t) => n - t
  | _ => 0
theorem leftW_at (n t : Nat) : leftW n (.int .i64 (t : Int)) = n - t := rfl
set_option maxRecDepth 100000 in
set_option maxHeartbeats 2000000 in
theorem win1_in (m : Nat) (hm : 1 ≤ m) (l : Nat) {hb sb h s : Nat} (hs : s < 512) (hh : h ≤ 9) (K : List Nat) (hK : hb ∈ K ∧ sb ∈ K) (J Jx : List (Fin (h + 1)) → World → Prop)
    (hJ : ∀ pre W W', J pre W → (∃ d, W' = W.drewN d) → J pre W')
    (hY : ∀ pre (x : Fin (h + 1)) W, J pre W → pre.length < h + 1 → YieldAt Fence.wide (m - 1) Tryd.prog l #[winV s x] W fun e W' =>
      (e = .returned (.bool true) ∧ J (pre ++ [x]) W' ∧ Stay K W W') ∨ (e = .returned (.bool false) ∧ Jx (pre ++ [x]) W'))
    (W : World) (hH : W.heap[hb]? = some (.cells #[.int .i64 h] 3 (0, 0))) (hS : W.heap[sb]? = some (.cells #[.int .i64 s] 3 (0, 0))) (h0 : J [] W) :
    CallsIn Fence.wide m Tryd.prog 82 #[.func (.yield l) #[] #[], .pointer (some ⟨hb, 0, none⟩), .pointer (some ⟨sb, 0, none⟩)] W fun e W' => (∃ v, e = .returned v) ∧
      ((∃ ys, ys = List.finRange (h + 1) ∧ J ys W') ∨ (∃ pre, (∃ k, k ≤ h + 1 ∧ pre = (List.finRange (h + 1)).take k) ∧ Jx pre W')) := by
  have HH := Aside0.mk hH
  have HS := Aside0.mk hS
  have HJ0 := Aside0.mk h0
  have HJ := Aside0.mk hJ
  have HY := Aside0.mk hY
  have HK := Aside0.mk hK
  have c0 : W.cell? ⟨hb, 0, none⟩ = some (.int .i64 h) := (blk_cell hH 0).trans rfl
  clear hH hS h0 hJ hY hK
  refine callsIn_of_wp Tryd.func82 rfl trivial ?_ rfl
  simp only [Tryd.ntmps82, List.size_toArray, List.length_cons, List.length_nil, Nat.reduceAdd, Nat.reduceSub, Array.replicate_succ, Array.replicate_zero, List.push_toArray, List.append_toArray, List.nil_append, List.cons_append]
  gi_wp2
  clear c0
  gi_loopw [10] (fun i wr => ∃ j : Nat, j ≤ h + 1 ∧ i = .int .i64 (j : Int) ∧ Aside0 (J ((List.finRange (h + 1)).take j) wr) ∧ Aside0 (wr.heap[hb]? = some (.cells #[.int .i64 h] 3 (0, 0))) ∧ Aside0 (wr.heap[sb]? = some (.cells #[.int .i64 s] 3 (0, 0))))
    (fun i _ => leftW (h + 1) i)
  case atStart => exact ⟨0, by omega, rfl, HJ0, HH, HS⟩
  case round =>
    clear HJ0 HH HS
    obtain ⟨j, hj, rfl, HJ1, HH, HS⟩ := hrel
    by_cases hlt : j < h + 1
    · have c1 : (_ : Option Value) = some (.int .i64 s) := (blk_cell HS.out 0).trans rfl
      have C := Aside0.mk (fun w => window_nat (s := s) (k := j) hs (by omega) w)
      have HT := Aside0.mk (fin_take hlt)
      gi_wp2_with (refine ⟨trivial, ?_⟩; gi_at_call 24; refine (callsIn_wide.2 (C.out _)).mono ?_; rintro e w1 ⟨rfl, hw⟩; have HW := Aside0.mk hw; clear hw; have HJ2 := Aside0.mk (HJ.out _ _ _ HJ1.out HW.out.out); obtain ⟨fn, tmps, assign, body, hy, hR⟩ := HY.out _ (⟨j, hlt⟩ : Fin (h + 1)) _ HJ2.out (by simp; omega); unfold winV at hy; dsimp only at hy; have HR := Aside0.mk hR; clear hR)
      refine HR.out.mono ?_
      have HH2 := Aside0.mk (blk_below HH.out HW.out.below)
      have HS2 := Aside0.mk (blk_below HS.out HW.out.below)
      clear HJ1 HH HS c1 C HR
      rintro e W3 (⟨rfl, hJ3, hk3⟩ | ⟨rfl, hJx3⟩)
      · have HJ3 := Aside0.mk hJ3
        have HH3 := Aside0.mk ((hk3 hb HK.out.1).trans HH2.out)
        have HS3 := Aside0.mk ((hk3 sb HK.out.2).trans HS2.out)
        clear hJ3 hk3 HJ2 HH2 HS2 HW
        gi_wp2
        go_roundw
        case rel => exact ⟨j + 1, by omega, by go_num, ⟨by rw [HT.out]; exact HJ3.out⟩, HH3, HS3⟩
        case measure => rw [show ((j : Int) + 1) = ((j + 1 : Nat) : Int) by omega, leftW_at, leftW_at]; omega
      · have HX := Aside0.mk hJx3
        clear hJx3 HJ2 HW
        gi_wp2
        refine bodyPost_ret (results_none rfl _ _ _) rfl ?_
        exact ⟨⟨_, rfl⟩, .inr ⟨_, ⟨j + 1, by omega, rfl⟩, by rw [HT.out]; exact HX.out⟩⟩
    · obtain rfl : j = h + 1 := by omega
      gi_wp2
      go_end0
      exact ⟨⟨_, rfl⟩, .inl ⟨_, rfl, by have := HJ1.out; rwa [List.take_of_length_le (by simp)] at this⟩⟩
theorem grown_drewN (W : World) (d : Nat) : W.grownBy (W.drewN d) none := ⟨rfl, rfl, rfl, Nat.le_refl _, fun _ _ _ => rfl⟩
theorem win_stops (m : Nat) (hm : 1 ≤ m) {hb sb h s : Nat} (hs : s < 512) (hh : h ≤ 9) {w : World} (hH : w.heap[hb]? = some (.cells #[.int .i64 h] 3 (0, 0))) (hS : w.heap[sb]? = some (.cells #[.int .i64 s] 3 (0, 0))) :
    SeqStopsK Fence.wide m Tryd.prog 82 #[.pointer (some ⟨hb, 0, none⟩), .pointer (some ⟨sb, 0, none⟩)] (fun x : Fin (h + 1) => #[winV s x]) (Stay [hb, sb]) (fun ys => ys = List.finRange (h + 1)) (fun pre => ∃ k, k ≤ h + 1 ∧ pre = (List.finRange (h + 1)).take k) (h + 1) w := fun l J Jx W hW hJ hJx hY h0 =>
  win1_in m hm l hs hh [hb, sb] (by simp) J Jx (fun pre W W' h ⟨d, hd⟩ => by rw [hd]; exact hJ _ _ _ none h (grown_drewN W d) (fun r e => by cases e)) hY W (blk_below hH hW) (blk_below hS hW) h0
end Go.Proofs.YtlaegahdignphaaDoor.M4
