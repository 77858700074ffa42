/- Counts behind a step: After walked, the ends without a window. -/
import Derived.Test.YtlaegahdignphaaDoorM8
import Derived.Deep.CutRange
namespace Go.Proofs.YtlaegahdignphaaDoor.M9
open Go.RowKit Go.Shelf Go.Proofs.YtlaegahdignphaaDoorW.PrintWords Go.Proofs.YtlaegahdignphaaDoorW.PrintLast Go.Proofs.YtlaegahdignphaaDoorW.PrintMore Q1 Q2 L1 L3 S1 M1 M2 M3 M4 M7 M8 SL SG
set_option linter.unusedVariables false
set_option linter.unusedSimpArgs false

theorem info_i : ∃ i0, Tryd.prog.info? 3 = some i0 ∧ i0.size = 1 := by
  obtain ⟨i0, hi, hzz⟩ := Option.map_eq_some_iff.1 S1.info3
  simp only [Prod.mk.injEq] at hzz
  exact ⟨i0, hi, hzz.2.1⟩
/-- counts[f:f+s] -/
theorem mid_nat {A : Option Addr} {c : Nat} {l : List Int} {f s : Nat} (h : f + s ≤ l.length) (hc : l.length ≤ c) :
    ∃ A', (∀ W : World, (Instr.slice 38 (.slice A l.length c) (some (.int .i64 (f : Int))) (some (.int .i64 ((f : Int) + (s : Int)))) none).run Tryd.prog W = .ok (.slice A' s (c - f)) W) ∧ (∀ w, Kd.C (Kd.int .i64) w A l.length l → Kd.C (Kd.int .i64) w A' s ((l.drop f).take s)) ∧ s ≤ c - f := by
  obtain ⟨i0, hi, hs⟩ := info_i
  obtain ⟨A', h1, h2, h3⟩ := print_mid_int (P := Tryd.prog) (k := .i64) 38 3 Tryd.underlying38 hi hs A c l (f : Int) ((f : Int) + (s : Int)) (by omega) (by omega) (by omega) hc
  have e : ((l.take ((f : Int) + (s : Int)).toNat).drop (f : Int).toNat) = (l.drop f).take s := by
    rw [show ((f : Int) + (s : Int)).toNat = f + s by omega, Int.toNat_natCast, List.drop_take, Nat.add_sub_cancel_left]
  have e2 : ((l.drop f).take s).length = s := by rw [List.length_take, List.length_drop]; omega
  rw [e] at h1 h2 h3
  rw [e2, Int.toNat_natCast] at h1
  rw [e2] at h2
  exact ⟨A', h1, fun w hr => Kd.C_of_reads (d := (0 : Int)) (h1 := fun _ => rfl) (h2 w (Kd.reads_of_C hr)), by omega⟩
theorem take_nat {A : Option Addr} {c : Nat} {l : List Int} {f : Nat} (h : f ≤ l.length) (hc : l.length ≤ c) :
    (∀ W : World, (Instr.slice 38 (.slice A l.length c) none (some (.int .i64 (f : Int))) none).run Tryd.prog W = .ok (.slice A f c) W) ∧ (∀ w, Kd.C (Kd.int .i64) w A l.length l → Kd.C (Kd.int .i64) w A f (l.take f)) := by
  obtain ⟨i0, hi, hs⟩ := info_i
  obtain ⟨h1, h2, h3⟩ := print_take_int (P := Tryd.prog) (k := .i64) 38 3 Tryd.underlying38 hi hs A c l (f : Int) (by omega) (by omega) hc
  have e2 : (l.take f).length = f := by rw [List.length_take]; omega
  rw [Int.toNat_natCast, e2] at h1 h2
  exact ⟨h1, fun w hr => Kd.C_of_reads (d := (0 : Int)) (h1 := fun _ => rfl) (h2 w (Kd.reads_of_C hr))⟩
theorem cut_nat {A : Option Addr} {c : Nat} {l : List Int} {f s : Nat} (h : f + s ≤ l.length) (hc : l.length ≤ c) :
    ∃ A', (∀ W : World, (Instr.slice 38 (.slice A l.length c) (some (.int .i64 ((f : Int) + (s : Int)))) none none).run Tryd.prog W = .ok (.slice A' (l.length - (f + s)) (c - (f + s))) W) ∧ (∀ w, Kd.C (Kd.int .i64) w A l.length l → Kd.C (Kd.int .i64) w A' (l.length - (f + s)) (l.drop (f + s))) := by
  obtain ⟨i0, hi, hs⟩ := info_i
  obtain ⟨A', h1, h2, h3⟩ := print_cut_int (P := Tryd.prog) (k := .i64) 38 3 Tryd.underlying38 hi hs A c l ((f : Int) + (s : Int)) (by omega) (by omega) hc
  rw [show ((f : Int) + (s : Int)).toNat = f + s by omega, List.length_drop] at h1 h2
  exact ⟨A', h1, fun w hr => Kd.C_of_reads (d := (0 : Int)) (h1 := fun _ => rfl) (h2 w (Kd.reads_of_C hr))⟩
theorem sum_any {w : World} {A : Option Addr} {c n : Nat} {l : List Int} (hr : Kd.C (Kd.int .i64) w A n l) (hc : n ≤ c) (hg : goodL l) (hl : l.length ≤ 4096) :
    Calls Tryd.prog 57 #[.slice A n c] w fun e w' => e = .returned (.int .i64 l.sum) ∧ Drawn0 w w' := by
  obtain rfl := hr.1
  obtain ⟨k, hk⟩ := sum_ev hg hl
  exact pick_sum.calls k A c l _ w hr hc (hk k (Nat.le_refl _))
theorem after_wrong {w : World} {A : Option Addr} {c : Nat} {l : List Int} (hr : Kd.C (Kd.int .i64) w A l.length l) (h : ckE l ≠ 0) (K F S C : Int) :
    Calls Tryd.prog 40 #[.slice A l.length c, .agg #[.int .i64 K, .int .i64 F, .int .i64 S, .int .i64 C]] w fun e w' => e = .returned (.tuple #[.slice none 0 0, .int .i64 (ckE l)]) ∧ Below w.heap.size w w' := by
  have q : (ckE l != 0) = true := bne_iff_ne.2 h
  have hs0 := (Sep.nil w).new_blk #[.int .i64 K, .int .i64 F, .int .i64 S, .int .i64 C] 41
  have HS := Aside0.mk hs0
  have HR := Aside0.mk hr
  have CK := Aside0.mk (check_any (c := c) (Kd.C_below hr hs0.below))
  have heq := fun w => eqS w
  have hgd := guardS
  clear hr hs0
  clear h
  generalize ckE l = ce at *
  go_enter Tryd.func40, Tryd.ntmps40
  go_wp2_with fail
  refine CK.out.mono ?_
  clear CK
  rintro e w1 ⟨rfl, hd⟩
  replace HS := Aside0.mk (HS.out.step hd.below)
  clear hd
  go_wp2
  go_ret2
  exact ⟨rfl, HS.out.below⟩
/-- A step of nothing. -/
theorem after_same {w : World} {A : Option Addr} {c : Nat} {l : List Int} (hr : Kd.C (Kd.int .i64) w A l.length l) (h : ckE l = 0) (hl : l.length ≤ 512) :
    Calls Tryd.prog 40 #[.slice A l.length c, .agg #[.int .i64 0, .int .i64 0, .int .i64 0, .int .i64 (8 * (l.length : Int))]] w fun e w' => ∃ A' c', e = .returned (.tuple #[.slice A' l.length c', .int .i64 0]) ∧ Sep w w' [S1.Own (.slice A' l.length c') l] := by
  have hs0 := (Sep.nil w).new_blk #[.int .i64 0, .int .i64 0, .int .i64 0, .int .i64 (8 * (l.length : Int))] 41
  have HS := Aside0.mk hs0
  have HR := Aside0.mk hr
  have CK := Aside0.mk (check_any (c := c) (Kd.C_below hr hs0.below))
  have heq := fun w => eqS w
  have hgd := guardS
  clear hr hs0
  rw [h] at CK
  have hA := fun w => (eqS w 0 0 0 0 0 0 (8 * (l.length : Int)) (8 * (l.length : Int))).trans (by rw [show eqB (0, 0, 0, 8 * (l.length : Int)) (0, 0, 0, 8 * (l.length : Int)) = true from decide_eq_true rfl])
  clear h heq
  go_enter Tryd.func40, Tryd.ntmps40
  go_wp2_with fail
  refine CK.out.mono ?_
  clear CK
  rintro e w1 ⟨rfl, hd⟩
  replace HS := Aside0.mk (HS.out.step hd.below)
  clear hd
  have c0 : (_ : Option Value) = some (.int .i64 0) := (blk_cell (HS.out.blk 0 rfl) 0).trans rfl
  have c1 : (_ : Option Value) = some (.int .i64 0) := (blk_cell (HS.out.blk 0 rfl) 1).trans rfl
  have c2 : (_ : Option Value) = some (.int .i64 0) := (blk_cell (HS.out.blk 0 rfl) 2).trans rfl
  have c3 : (_ : Option Value) = some (.int .i64 (8 * (l.length : Int))) := (blk_cell (HS.out.blk 0 rfl) 3).trans rfl
  have CL := Aside0.mk (clone_any (c := c) (Kd.C_below HR.out HS.out.below) (by omega))
  go_wp2_with fail
  refine CL.out.mono ?_
  clear CL
  rintro e w2 ⟨A', c', rfl, hs⟩
  have HS2 := Aside0.mk ((HS.out.append hs).tail)
  clear hs HS c0 c1 c2 c3
  go_wp2
  go_ret2
  exact ⟨A', c', rfl, HS2.out⟩
end Go.Proofs.YtlaegahdignphaaDoor.M9
