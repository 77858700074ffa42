/- The document's counts behind a step, walked. -/
import Derived.Test.YtlaegahdignphaaDoorO4
import Derived.Test.YtlaegahdignphaaDoorN2
namespace Go.Proofs.YtlaegahdignphaaDoor.O5
open Go.RowKit Go.Shelf Go.Proofs.YtlaegahdignphaaDoorW.PrintWords Go.Proofs.YtlaegahdignphaaDoorW.PrintLast Go.Proofs.YtlaegahdignphaaDoorW.PrintMore Q1 Q2 L1 L3 S1 M1 M2 M3 M4 M7 M8 M9 N1 N2 N7 O4 SL SG
set_option linter.unusedVariables false
set_option linter.unusedSimpArgs false

theorem refSum_0 {w : World} {A : Option Addr} {c : Nat} {l : List Int} (hr : Kd.C (Kd.int .i64) w A l.length l) (hc : l.length ≤ c) (hg : goodL l) (hl : l.length ≤ 4096) : Calls Tryd.prog 60 #[.slice A l.length c, .int .i64 0, .int .i64 l.length] w fun e w' => e = .returned (.int .i64 l.sum) ∧ Drawn0 w w' := by
  have h := refSum_any hr hc hg hl (f := 0) (n := l.length) (by omega)
  rw [show sumW l 0 l.length = l.sum by simp [sumW]] at h
  exact h
section
variable {w : World} {A : Option Addr} {c : Nat} {l : List Int}
set_option maxHeartbeats 1000000 in
theorem ref_same (hr : Kd.C (Kd.int .i64) w A l.length l) (hlc : l.length ≤ c) (hg : goodL l) (hl : l.length ≤ 512) :
    Calls Tryd.prog 41 #[.slice A l.length c, .agg #[.int .i64 0, .int .i64 0, .int .i64 0, .int .i64 (8 * (l.length : Int))]] w fun e w' => ∃ A' c', e = .returned (.tuple #[.slice A' l.length c', .int .i64 0]) ∧ Sep w w' [S1.Own (.slice A' l.length c') l] := by
  have gA : eqB (0, 0, 0, 8 * (l.length : Int)) (0, 0, 0, 8 * (l.length : Int)) = true := decide_eq_true rfl
  have hs0 := (Sep.nil w).new_blk #[.int .i64 0, .int .i64 0, .int .i64 0, .int .i64 (8 * (l.length : Int))] 41
  have HS := Aside0.mk hs0
  have HR := Aside0.mk hr
  have HLC := Aside0.mk hlc
  have HG := Aside0.mk hg
  have CK := Aside0.mk (refSum_0 (c := c) (Kd.C_below hr hs0.below) hlc hg (by omega))
  have heq := fun w => eqS w
  have hgd := guardS
  clear hr hs0 hlc hg
  go_enter Tryd.func41, Tryd.ntmps41
  go_wp2_with fail
  refine CK.out.mono ?_
  clear CK
  rintro e w1 ⟨rfl, hd⟩
  replace HS := Aside0.mk (HS.out.step hd.below)
  clear hd
  have c0 : (_ : Option Value) = some (.int .i64 0) := (blk_cell (HS.out.blk 0 rfl) 0).trans rfl
  have c1 : (_ : Option Value) = some (.int .i64 0) := (blk_cell (HS.out.blk 0 rfl) 1).trans rfl
  have c2 : (_ : Option Value) = some (.int .i64 0) := (blk_cell (HS.out.blk 0 rfl) 2).trans rfl
  have c3 : (_ : Option Value) = some (.int .i64 (8 * (l.length : Int))) := (blk_cell (HS.out.blk 0 rfl) 3).trans rfl
  have HSe := Aside0.mk (HS.out.append ((Sep.nil w1).new_own (below_alloc (Below.refl _ w1) (.cells #[] 3)) (own_lit w1 w1.heap.size 3 .i64 [] (Nat.le_refl _) (by decide))))
  have HRe := Aside0.mk (Kd.C_below (Kd.C_below HR.out HS.out.below) (below_alloc (Below.refl _ w1) (.cells #[] 3)))
  have hlen0 : ([] : List Int).length + l.length ≤ 1000000 := by simp; omega
  go_wp2_with ((with_reducible refine gate_builtin (b := .append) (xs := #[.tmp 22, .tmp 23]) rfl ?_); at_builtin; refine sep_append_row rfl (.tmp 22) (.tmp 23) rfl HSe.out 1 rfl HRe.out rfl rfl hlen0 ?_; intro v1 w2 hs; obtain ⟨A', c', ev, _⟩ := own_C (hs.own 1 rfl); simp only [List.nil_append] at ev; subst ev; have HS2 := Aside0.mk hs; clear hs)
  go_ret2
  exact ⟨A', c', rfl, HS2.out.tail⟩
set_option maxHeartbeats 1000000 in
theorem ref_grow (hr : Kd.C (Kd.int .i64) w A l.length l) (hlc : l.length ≤ c) (hg : goodL l) (hl : l.length ≤ 256) (h1 : 1 ≤ l.length) :
    Calls Tryd.prog 41 #[.slice A l.length c, .agg #[.int .i64 2, .int .i64 0, .int .i64 (2 * (l.length : Int)), .int .i64 (16 * (l.length : Int))]] w fun e w' => ∃ A' c', e = .returned (.tuple #[.slice A' (2 * l.length : Nat) c', .int .i64 0]) ∧ Sep w w' [S1.Own (.slice A' (2 * l.length : Nat) c') (shrL l.sum.toNat (2 * l.length))] := by
  have hb := good_sum hg
  have gA : eqB (2, 0, 2 * (l.length : Int), 16 * (l.length : Int)) (0, 0, 0, 8 * (l.length : Int)) = false := decide_eq_false (by simp)
  have gG : eqB (2, 0, 2 * (l.length : Int), 16 * (l.length : Int)) (2, 0, 2 * (l.length : Int), 16 * (l.length : Int)) = true := decide_eq_true rfl
  have q : ((l.length : Int) == 512) = false := beq_eq_false_iff_ne.2 (by omega)
  have HSH := Aside0.mk (fun w => refShares_any (n := l.sum.toNat) (s := 2 * l.length) (by omega) (by omega) (by omega) w)
  rw [show ((l.sum.toNat : Nat) : Int) = l.sum by omega] at HSH
  rw [show ((2 * l.length : Nat) : Int) = 2 * (l.length : Int) by omega] at HSH
  have hs0 := (Sep.nil w).new_blk #[.int .i64 2, .int .i64 0, .int .i64 (2 * (l.length : Int)), .int .i64 (16 * (l.length : Int))] 41
  have HS := Aside0.mk hs0
  have HR := Aside0.mk hr
  have HLC := Aside0.mk hlc
  have HG := Aside0.mk hg
  have CK := Aside0.mk (refSum_0 (c := c) (Kd.C_below hr hs0.below) hlc hg (by omega))
  have heq := fun w => eqS w
  have hgd := guardS
  clear hr hs0 hlc hg
  go_enter Tryd.func41, Tryd.ntmps41
  go_wp2_with fail
  refine CK.out.mono ?_
  clear CK
  rintro e w1 ⟨rfl, hd⟩
  replace HS := Aside0.mk (HS.out.step hd.below)
  clear hd
  have c0 : (_ : Option Value) = some (.int .i64 2) := (blk_cell (HS.out.blk 0 rfl) 0).trans rfl
  have c1 : (_ : Option Value) = some (.int .i64 0) := (blk_cell (HS.out.blk 0 rfl) 1).trans rfl
  have c2 : (_ : Option Value) = some (.int .i64 (2 * (l.length : Int))) := (blk_cell (HS.out.blk 0 rfl) 2).trans rfl
  have c3 : (_ : Option Value) = some (.int .i64 (16 * (l.length : Int))) := (blk_cell (HS.out.blk 0 rfl) 3).trans rfl
  go_wp2_with fail
  refine (HSH.out _).mono ?_
  clear HSH
  rintro e w2 ⟨v, rfl, hs⟩
  obtain ⟨A', c', ev, _⟩ := own_C (hs.own 0 rfl)
  rw [shrL_len] at ev
  subst ev
  have HS2 := Aside0.mk ((HS.out.append hs).tail)
  clear hs
  go_wp2
  go_ret2
  exact ⟨A', c', rfl, HS2.out⟩
set_option maxHeartbeats 1000000 in
theorem ref_big (hr : Kd.C (Kd.int .i64) w A l.length l) (hlc : l.length ≤ c) (hg : goodL l) (hl : l.length = 512) :
    Calls Tryd.prog 41 #[.slice A l.length c, .agg #[.int .i64 2, .int .i64 0, .int .i64 (2 * (l.length : Int)), .int .i64 (16 * (l.length : Int))]] w fun e w' => e = .returned (.tuple #[.slice none 0 0, .int .i64 1]) ∧ Below w.heap.size w w' := by
  have gA : eqB (2, 0, 2 * (l.length : Int), 16 * (l.length : Int)) (0, 0, 0, 8 * (l.length : Int)) = false := decide_eq_false (by simp)
  have gG : eqB (2, 0, 2 * (l.length : Int), 16 * (l.length : Int)) (2, 0, 2 * (l.length : Int), 16 * (l.length : Int)) = true := decide_eq_true rfl
  have q : ((l.length : Int) == 512) = true := beq_iff_eq.2 (by omega)
  have hl2 : l.length ≤ 512 := by omega
  have hs0 := (Sep.nil w).new_blk #[.int .i64 2, .int .i64 0, .int .i64 (2 * (l.length : Int)), .int .i64 (16 * (l.length : Int))] 41
  have HS := Aside0.mk hs0
  have HR := Aside0.mk hr
  have HLC := Aside0.mk hlc
  have HG := Aside0.mk hg
  have CK := Aside0.mk (refSum_0 (c := c) (Kd.C_below hr hs0.below) hlc hg (by omega))
  have heq := fun w => eqS w
  have hgd := guardS
  clear hr hs0 hlc hg
  clear hl
  go_enter Tryd.func41, Tryd.ntmps41
  go_wp2_with fail
  refine CK.out.mono ?_
  clear CK
  rintro e w1 ⟨rfl, hd⟩
  replace HS := Aside0.mk (HS.out.step hd.below)
  clear hd
  have c0 : (_ : Option Value) = some (.int .i64 2) := (blk_cell (HS.out.blk 0 rfl) 0).trans rfl
  have c1 : (_ : Option Value) = some (.int .i64 0) := (blk_cell (HS.out.blk 0 rfl) 1).trans rfl
  have c2 : (_ : Option Value) = some (.int .i64 (2 * (l.length : Int))) := (blk_cell (HS.out.blk 0 rfl) 2).trans rfl
  have c3 : (_ : Option Value) = some (.int .i64 (16 * (l.length : Int))) := (blk_cell (HS.out.blk 0 rfl) 3).trans rfl
  go_wp2
  go_ret2
  exact ⟨rfl, HS.out.below⟩
set_option maxHeartbeats 1000000 in
theorem ref_shrink (hr : Kd.C (Kd.int .i64) w A l.length l) (hlc : l.length ≤ c) (hg : goodL l) (hl : l.length ≤ 512) {m : Nat} (hm : l.length = 2 * m) (h4 : l.length ≠ 4) (h1 : 1 ≤ m) (hs : l.sum ≤ 4 * (l.length : Int)) :
    Calls Tryd.prog 41 #[.slice A l.length c, .agg #[.int .i64 3, .int .i64 0, .int .i64 m, .int .i64 (4 * (l.length : Int))]] w fun e w' => ∃ A' c', e = .returned (.tuple #[.slice A' m c', .int .i64 0]) ∧ Sep w w' [S1.Own (.slice A' m c') (shrL l.sum.toNat m)] := by
  have hb := good_sum hg
  have e1 : ((l.length : Int)).tdiv 2 = m := by rw [Int.tdiv_eq_ediv_of_nonneg (by omega)]; omega
  have gA : eqB (3, 0, (m : Int), 4 * (l.length : Int)) (0, 0, 0, 8 * (l.length : Int)) = false := decide_eq_false (by simp)
  have gG : eqB (3, 0, (m : Int), 4 * (l.length : Int)) (2, 0, 2 * (l.length : Int), 16 * (l.length : Int)) = false := decide_eq_false (by simp)
  have gD : eqB (3, 0, (m : Int), 4 * (l.length : Int)) (3, 0, (m : Int), 4 * (l.length : Int)) = true := decide_eq_true rfl
  have hm2 : m ≤ 256 := by omega
  have q : ((l.length : Int) == 4) = false := beq_eq_false_iff_ne.2 (by omega)
  have q2 : ¬ 4 * (l.length : Int) < l.sum := by omega
  have HSH := Aside0.mk (fun w => refShares_any (n := l.sum.toNat) (s := m) (by omega) (by omega) (by omega) w)
  rw [show ((l.sum.toNat : Nat) : Int) = l.sum by omega] at HSH
  have hs0 := (Sep.nil w).new_blk #[.int .i64 3, .int .i64 0, .int .i64 m, .int .i64 (4 * (l.length : Int))] 41
  have HS := Aside0.mk hs0
  have HR := Aside0.mk hr
  have HLC := Aside0.mk hlc
  have HG := Aside0.mk hg
  have CK := Aside0.mk (refSum_0 (c := c) (Kd.C_below hr hs0.below) hlc hg (by omega))
  have heq := fun w => eqS w
  have hgd := guardS
  clear hr hs0 hlc hg
  clear hm h4 hs hb
  go_enter Tryd.func41, Tryd.ntmps41
  go_wp2_with fail
  refine CK.out.mono ?_
  clear CK
  rintro e w1 ⟨rfl, hd⟩
  replace HS := Aside0.mk (HS.out.step hd.below)
  clear hd
  have c0 : (_ : Option Value) = some (.int .i64 3) := (blk_cell (HS.out.blk 0 rfl) 0).trans rfl
  have c1 : (_ : Option Value) = some (.int .i64 0) := (blk_cell (HS.out.blk 0 rfl) 1).trans rfl
  have c2 : (_ : Option Value) = some (.int .i64 m) := (blk_cell (HS.out.blk 0 rfl) 2).trans rfl
  have c3 : (_ : Option Value) = some (.int .i64 (4 * (l.length : Int))) := (blk_cell (HS.out.blk 0 rfl) 3).trans rfl
  go_wp2_with fail
  refine (HSH.out _).mono ?_
  clear HSH
  rintro e w2 ⟨v, rfl, hs⟩
  obtain ⟨A', c', ev, _⟩ := own_C (hs.own 0 rfl)
  rw [shrL_len] at ev
  subst ev
  have HS2 := Aside0.mk ((HS.out.append hs).tail)
  clear hs
  go_wp2
  go_ret2
  exact ⟨A', c', rfl, HS2.out⟩
set_option maxHeartbeats 1000000 in
theorem ref_small (hr : Kd.C (Kd.int .i64) w A l.length l) (hlc : l.length ≤ c) (hg : goodL l) (hl : l.length ≤ 512) {m : Nat} (hm : l.length = 2 * m) (h4 : l.length = 4) :
    Calls Tryd.prog 41 #[.slice A l.length c, .agg #[.int .i64 3, .int .i64 0, .int .i64 m, .int .i64 (4 * (l.length : Int))]] w fun e w' => e = .returned (.tuple #[.slice none 0 0, .int .i64 1]) ∧ Below w.heap.size w w' := by
  have e1 : ((l.length : Int)).tdiv 2 = m := by rw [Int.tdiv_eq_ediv_of_nonneg (by omega)]; omega
  have gA : eqB (3, 0, (m : Int), 4 * (l.length : Int)) (0, 0, 0, 8 * (l.length : Int)) = false := decide_eq_false (by simp)
  have gG : eqB (3, 0, (m : Int), 4 * (l.length : Int)) (2, 0, 2 * (l.length : Int), 16 * (l.length : Int)) = false := decide_eq_false (by simp)
  have gD : eqB (3, 0, (m : Int), 4 * (l.length : Int)) (3, 0, (m : Int), 4 * (l.length : Int)) = true := decide_eq_true rfl
  have hm2 : m ≤ 256 := by omega
  have q : ((l.length : Int) == 4) = true := beq_iff_eq.2 (by omega)
  have hs0 := (Sep.nil w).new_blk #[.int .i64 3, .int .i64 0, .int .i64 m, .int .i64 (4 * (l.length : Int))] 41
  have HS := Aside0.mk hs0
  have HR := Aside0.mk hr
  have HLC := Aside0.mk hlc
  have HG := Aside0.mk hg
  have CK := Aside0.mk (refSum_0 (c := c) (Kd.C_below hr hs0.below) hlc hg (by omega))
  have heq := fun w => eqS w
  have hgd := guardS
  clear hr hs0 hlc hg
  clear hm h4
  go_enter Tryd.func41, Tryd.ntmps41
  go_wp2_with fail
  refine CK.out.mono ?_
  clear CK
  rintro e w1 ⟨rfl, hd⟩
  replace HS := Aside0.mk (HS.out.step hd.below)
  clear hd
  have c0 : (_ : Option Value) = some (.int .i64 3) := (blk_cell (HS.out.blk 0 rfl) 0).trans rfl
  have c1 : (_ : Option Value) = some (.int .i64 0) := (blk_cell (HS.out.blk 0 rfl) 1).trans rfl
  have c2 : (_ : Option Value) = some (.int .i64 m) := (blk_cell (HS.out.blk 0 rfl) 2).trans rfl
  have c3 : (_ : Option Value) = some (.int .i64 (4 * (l.length : Int))) := (blk_cell (HS.out.blk 0 rfl) 3).trans rfl
  go_wp2
  go_ret2
  exact ⟨rfl, HS.out.below⟩
set_option maxHeartbeats 1000000 in
theorem ref_much (hr : Kd.C (Kd.int .i64) w A l.length l) (hlc : l.length ≤ c) (hg : goodL l) (hl : l.length ≤ 512) {m : Nat} (hm : l.length = 2 * m) (h4 : l.length ≠ 4) (hs : 4 * (l.length : Int) < l.sum) :
    Calls Tryd.prog 41 #[.slice A l.length c, .agg #[.int .i64 3, .int .i64 0, .int .i64 m, .int .i64 (4 * (l.length : Int))]] w fun e w' => e = .returned (.tuple #[.slice none 0 0, .int .i64 1]) ∧ Below w.heap.size w w' := by
  have e1 : ((l.length : Int)).tdiv 2 = m := by rw [Int.tdiv_eq_ediv_of_nonneg (by omega)]; omega
  have gA : eqB (3, 0, (m : Int), 4 * (l.length : Int)) (0, 0, 0, 8 * (l.length : Int)) = false := decide_eq_false (by simp)
  have gG : eqB (3, 0, (m : Int), 4 * (l.length : Int)) (2, 0, 2 * (l.length : Int), 16 * (l.length : Int)) = false := decide_eq_false (by simp)
  have gD : eqB (3, 0, (m : Int), 4 * (l.length : Int)) (3, 0, (m : Int), 4 * (l.length : Int)) = true := decide_eq_true rfl
  have hm2 : m ≤ 256 := by omega
  have q : ((l.length : Int) == 4) = false := beq_eq_false_iff_ne.2 (by omega)
  have hs0 := (Sep.nil w).new_blk #[.int .i64 3, .int .i64 0, .int .i64 m, .int .i64 (4 * (l.length : Int))] 41
  have HS := Aside0.mk hs0
  have HR := Aside0.mk hr
  have HLC := Aside0.mk hlc
  have HG := Aside0.mk hg
  have CK := Aside0.mk (refSum_0 (c := c) (Kd.C_below hr hs0.below) hlc hg (by omega))
  have heq := fun w => eqS w
  have hgd := guardS
  clear hr hs0 hlc hg
  clear hm h4
  go_enter Tryd.func41, Tryd.ntmps41
  go_wp2_with fail
  refine CK.out.mono ?_
  clear CK
  rintro e w1 ⟨rfl, hd⟩
  replace HS := Aside0.mk (HS.out.step hd.below)
  clear hd
  have c0 : (_ : Option Value) = some (.int .i64 3) := (blk_cell (HS.out.blk 0 rfl) 0).trans rfl
  have c1 : (_ : Option Value) = some (.int .i64 0) := (blk_cell (HS.out.blk 0 rfl) 1).trans rfl
  have c2 : (_ : Option Value) = some (.int .i64 m) := (blk_cell (HS.out.blk 0 rfl) 2).trans rfl
  have c3 : (_ : Option Value) = some (.int .i64 (4 * (l.length : Int))) := (blk_cell (HS.out.blk 0 rfl) 3).trans rfl
  go_wp2
  go_ret2
  exact ⟨rfl, HS.out.below⟩
end
end Go.Proofs.YtlaegahdignphaaDoor.O5
