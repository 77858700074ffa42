/- The array of a capacity, empty, and the slots; the least array of elements: walked. -/
import Derived.Test.YtofkkdjbilklcaaDoorY2
import Derived.Test.YtofkkdjbilklcaaDoorSX
namespace Go.Proofs.YtofkkdjbilklcaaDoor.Y4
open Go.RowKit Go.Shelf Go.Proofs.YtofkkdjbilklcaaDoorW.PrintWords Go.Proofs.YtofkkdjbilklcaaDoorW.PrintLast Go.Proofs.YtofkkdjbilklcaaDoorW.PrintMore G1 G0 Q1 G2 G3 G4 G5 G6 G7 G8 G9 G10 S1 Y1 Y3 Y2
open L1 (capB sgN cpE cap_mem segs_any for_any forN forE)
set_option linter.unusedVariables false
set_option linter.unusedSimpArgs false

theorem cap_nat {S : Nat} (h : capB (S : Int) = true) : ∃ k, S = 8 * k ∧ 4 ≤ k ∧ k ≤ 512 ∧ sgN (S : Int) = (k : Int) ∧ cpE (S : Int) = 0 := by
  have hm := cap_mem h
  refine ⟨S / 8, ?_, ?_, ?_, ?_, ?_⟩
  · simp only [List.mem_cons, List.not_mem_nil, or_false] at hm; omega
  · simp only [List.mem_cons, List.not_mem_nil, or_false] at hm; omega
  · simp only [List.mem_cons, List.not_mem_nil, or_false] at hm; omega
  · unfold sgN; rw [h, if_pos rfl]; omega
  · unfold cpE; rw [h, if_pos rfl]
theorem empty_bad {s : Int} (hc : capB s = false) (n : Int) (w : World) : Calls Tryd.prog 90 #[.int .i64 n, .int .i64 s] w fun e w' => e = .returned (.tuple #[.pointer none, .slice none 0 0, .int .i64 10]) ∧ Below w.heap.size w w' := by
  have C := segs_any s w
  have e1 : sgN s = 0 := by unfold sgN; rw [hc]; rfl
  have e2 : cpE s = 10 := by unfold cpE; rw [hc]; rfl
  rw [e1, e2] at C
  go_enter Tryd.func90, Tryd.ntmps90
  go_wp2_with fail
  refine C.mono ?_
  clear C
  rintro e w1 ⟨rfl, hd⟩
  have HB := Aside0.mk hd.below
  clear hd
  go_wp2
  go_ret3
  exact ⟨rfl, HB.out⟩
theorem empty_long {S : Nat} (hc : capB (S : Int) = true) {n : Nat} (h : S < n) (w : World) : Calls Tryd.prog 90 #[.int .i64 n, .int .i64 S] w fun e w' => e = .returned (.tuple #[.pointer none, .slice none 0 0, .int .i64 12]) ∧ Below w.heap.size w w' := by
  obtain ⟨k, hk, hk1, hk2, e1, e2⟩ := cap_nat hc
  have C := segs_any (S : Int) w
  rw [e1, e2] at C
  have q : (S : Int) < (n : Int) := by omega
  clear hc hk e1 e2
  go_enter Tryd.func90, Tryd.ntmps90
  go_wp2_with fail
  refine C.mono ?_
  clear C
  rintro e w1 ⟨rfl, hd⟩
  have HB := Aside0.mk hd.below
  clear hd
  go_wp2
  go_ret3
  exact ⟨rfl, HB.out⟩
theorem empty_yes {n S k : Nat} (hc : capB (S : Int) = true) (hk : S = 8 * k) (hn : n ≤ S) (w : World) : Calls Tryd.prog 90 #[.int .i64 n, .int .i64 S] w fun e w' => ∃ p sb ob wb A c, e = .returned (.tuple #[.pointer (some ⟨p, 0, none⟩), .slice A n c, .int .i64 0]) ∧ Sep w w' [S1.Own (.slice A n c) (plK n k 0 k), S1.Arr p sb ob wb S (gap0 S)] := by
  obtain ⟨k', hk', hk1, hk2, e1, e2⟩ := cap_nat hc
  obtain rfl : k' = k := by omega
  have C := segs_any (S : Int) w
  rw [e1, e2] at C
  have q : ¬ (S : Int) < (n : Int) := by omega
  have HS := Aside0.mk (Sep.nil w)
  have hlen := Aside0.mk (pl_len (n := n) 0 (show 1 ≤ k' by omega))
  have CP := Aside0.mk (fun w => spl_any (n := n) (s := k') (f := 0) (by omega) (by omega) (by omega) w)
  simp only [Int.natCast_zero] at CP
  have CN := Aside0.mk (fun w => gnew_yes S w (by omega) (by omega))
  clear hc hk hk' e1 e2
  go_enter Tryd.func90, Tryd.ntmps90
  go_wp2_with fail
  refine C.mono ?_
  clear C
  rintro e w1 ⟨rfl, hd⟩
  replace HS := Aside0.mk (HS.out.step hd.below)
  clear hd
  go_wp2_with fail
  refine (CP.out _).mono ?_
  clear CP
  rintro e w2 ⟨A, c, rfl, h1, h2, h3, hb⟩
  replace HS := Aside0.mk (HS.out.new_own (xs := plK n k' 0 k') hb (by rw [hlen.out]; exact h3))
  clear h1 h2 h3 hb
  go_wp2_with fail
  refine (CN.out _).mono ?_
  clear CN
  rintro e w3 ⟨p, sb, ob, wb, rfl, h4, hs, hb⟩
  replace HS := Aside0.mk (HS.out.new_arr (s := gap0 S) hb ⟨_, hs⟩ h4)
  clear hs hb h4
  go_wp2
  go_ret3
  exact ⟨p, sb, ob, wb, A, c, rfl, HS.out⟩
theorem for_small : ∀ n : Nat, n < 2561 → capB (forN n) = true ∧ (n : Int) ≤ forN n ∧ 0 ≤ forN n := by decide +kernel
theorem of_full {A : Option Addr} {c : Nat} {n : Nat} (h : 2560 < n) (w : World) : Calls Tryd.prog 51 #[.slice A n c] w fun e w' => e = .returned (.tuple #[.pointer none, .int .i64 16]) ∧ Below w.heap.size w w' := by
  have C := for_any (n : Int) w
  have e1 : forN (n : Int) = 0 := by unfold forN; rw [if_neg (by omega), if_pos (by omega)]
  have e2 : forE (n : Int) = 16 := by unfold forE; rw [if_neg (by omega), if_pos (by omega)]
  rw [e1, e2] at C
  clear e1 e2
  go_enter Tryd.func51, Tryd.ntmps51
  go_wp2_with fail
  refine C.mono ?_
  clear C
  rintro e w1 ⟨rfl, hd⟩
  have HB := Aside0.mk hd
  clear hd
  go_wp2
  go_ret2
  exact ⟨rfl, HB.out⟩
set_option maxHeartbeats 2000000 in
theorem of_yes {A : Option Addr} {c : Nat} {l : List Int} {w : World} (hr : Kd.C (Kd.int .i64) w A l.length l) {S k : Nat} (hn : l.length ≤ 2560) (hS : forN (l.length : Int) = (S : Int)) (hk : S = 8 * k) : Calls Tryd.prog 51 #[.slice A l.length c] w fun e w' => ∃ p sb ob wb, e = .returned (.tuple #[.pointer (some ⟨p, 0, none⟩), .int .i64 0]) ∧ Sep w w' [S1.Arr p sb ob wb S (layG S (plK l.length k 0 k) l l.length)] := by
  have C := for_any (l.length : Int) w
  obtain ⟨hc, hle, h0⟩ := for_small l.length (by omega)
  have e2 : forE (l.length : Int) = 0 := by unfold forE; rw [if_neg (by omega), if_neg (by omega)]
  rw [hS] at C hc hle
  rw [e2] at C
  obtain ⟨k', hk', hk1, hk2, _, _⟩ := cap_nat hc
  obtain rfl : k' = k := by omega
  have HE := Aside0.mk (fun w => empty_yes (n := l.length) hc hk (by omega) w)
  have HS := Aside0.mk (Sep.nil w)
  have HR := Aside0.mk hr
  have HRI := Aside0.mk (show Rise S (plK l.length k' 0 k') by rw [hk]; exact pl_rise (by omega) (by omega))
  have hlen := pl_len (n := l.length) 0 (show 1 ≤ k' by omega)
  have HL := Aside0.mk (And.intro hle hlen)
  have hl2 : l.length ≤ 2560 := hn
  clear hr hS hk e2 hc h0 hk' hle hn hlen
  go_enter Tryd.func51, Tryd.ntmps51
  go_wp2_with fail
  refine C.mono ?_
  clear C
  rintro e w1 ⟨rfl, hd⟩
  replace HS := Aside0.mk (HS.out.step hd)
  clear hd
  go_wp2_with fail
  refine (HE.out _).mono ?_
  clear HE
  rintro e w2 ⟨p, sb, ob, wb, A2, c2, rfl, hs2⟩
  replace HS := Aside0.mk (HS.out.append hs2)
  clear hs2
  go_wp2
  go_loopg [33] (l.length + 1) (fun kq v33 W => ∃ i : Nat, v33 = .int .i64 i ∧ i ≤ l.length ∧ Aside0 (l.length + 1 - i ≤ kq) ∧ Aside0 (Sep w W [S1.Own (.slice A2 l.length c2) (plK l.length k' 0 k'), S1.Arr p sb ob wb S (layG S (plK l.length k' 0 k') l i)]))
  case atStart => exact ⟨0, rfl, by omega, ⟨by omega⟩, HS⟩
  case round =>
    clear HS
    obtain ⟨i, rfl, hi, HQ, HS⟩ := hrel
    by_cases hlt : i < l.length
    · obtain ⟨ad, e, hx⟩ := Kd.at_int (Kd.C_below HR.out HS.out.below) (i : Int) (by omega) (by omega)
      cases e
      rw [Int.toNat_natCast, show rd l (i : Int) = l.getD i 0 from rfl] at hx
      obtain ⟨ad2, e2, hx2⟩ := Kd.at_int (HS.out.row 0 rfl).2.2 (i : Int) (by omega) (by omega)
      cases e2
      rw [Int.toNat_natCast, show rd (plK l.length k' 0 k') (i : Int) = (plK l.length k' 0 k').getD i 0 from rfl] at hx2
      have CP := Aside0.mk (put_any (HS.out.arr 1 rfl) ((plK l.length k' 0 k').getD i 0) (l.getD i 0))
      rw [lay_put HRI.out (by rw [HL.out.2]; exact hlt)] at CP
      have HG := Aside0.mk (show layG S (plK l.length k' 0 k') l (i + 1) = putS S (layG S (plK l.length k' 0 k') l i) ((plK l.length k' 0 k').getD i 0) (l.getD i 0) from rfl)
      generalize (plK l.length k' 0 k').getD i 0 = y at *
      generalize l.getD i 0 = x at *
      go_wp2_with fail
      refine CP.out.mono ?_
      clear CP hx hx2
      rintro e w3 ⟨rfl, h4, h5⟩
      replace HS := Aside0.mk (HS.out.turn_arr 1 rfl h5 h4)
      clear h4 h5
      go_wp2
      go_roundg (l.length - i)
      case measure => have := HQ.out; omega
      case rel => exact ⟨i + 1, by go_num, by omega, ⟨by omega⟩, ⟨by rw [HG.out]; exact HS.out⟩⟩
    · obtain rfl : i = l.length := by omega
      go_wp2
      go_ret2
      exact ⟨p, sb, ob, wb, rfl, HS.out.tail⟩
end Go.Proofs.YtofkkdjbilklcaaDoor.Y4
