/- Counts behind a step: After walked, where a window is spread. -/
import Derived.Test.YtlaegahdignphaaDoorN1
namespace Go.Proofs.YtlaegahdignphaaDoor.N2
open Go.RowKit Go.Shelf Go.Proofs.YtlaegahdignphaaDoorW.PrintWords Go.Proofs.YtlaegahdignphaaDoorW.PrintLast Go.Proofs.YtlaegahdignphaaDoorW.PrintMore Q1 Q2 L1 L3 S1 M1 M2 M3 M4 M7 M8 M9 N1 SL SG
set_option linter.unusedVariables false
set_option linter.unusedSimpArgs false
/-- The counts behind a spread. -/
def spr (l : List Int) (f s : Nat) : List Int := l.take f ++ shrL (sumW l f s).toNat s ++ l.drop (f + s)
/-- The three rows. -/
def rows3 (A : Option Addr) (c : Nat) (l : List Int) (f s rb : Nat) (A3 : Option Addr) (c3 : Nat) : Nat → Row3
  | 0 => ⟨A, c, l.take f⟩
  | 1 => ⟨some ⟨rb, 0, none⟩, s, shrL (sumW l f s).toNat s⟩
  | _ => ⟨A3, c3, l.drop (f + s)⟩
theorem rows3_cat (A : Option Addr) (c : Nat) (l : List Int) (f s rb : Nat) (A3 : Option Addr) (c3 : Nat) : cat (rows3 A c l f s rb A3 c3) 3 = spr l f s := by
  simp [cat, rows3, spr]
theorem spr_len {l : List Int} {f s : Nat} (h : f + s ≤ l.length) : (spr l f s).length = l.length := by
  simp [spr, shrL_len]; omega
set_option maxRecDepth 100000 in
set_option maxHeartbeats 8000000 in
theorem after_win {w : World} {A : Option Addr} {c : Nat} {l : List Int} (hr : Kd.C (Kd.int .i64) w A l.length l) (hlc : l.length ≤ c) (h : ckE l = 0) (hg : goodL l) (hl : l.length ≤ 512) {f s : Nat} (hw : winOkB l.length f s = true) (hs1 : 1 ≤ s) (hfs : f + s ≤ l.length) :
    Calls Tryd.prog 40 #[.slice A l.length c, .agg #[.int .i64 1, .int .i64 f, .int .i64 s, .int .i64 (8 * (l.length : Int))]] w fun e w' => ∃ A' c', e = .returned (.tuple #[.slice A' l.length c', .int .i64 0]) ∧ Sep w w' [S1.Own (.slice A' l.length c') (spr l f s)] := by
  have gA : eqB (1, (f : Int), (s : Int), 8 * (l.length : Int)) (0, 0, 0, 8 * (l.length : Int)) = false := decide_eq_false (by simp)
  have CM := Aside0.mk (fun w => mayw_any 1 f s (8 * (l.length : Int)) l.length hl w)
  rw [hw] at CM
  obtain ⟨A9, hmid, hR9, HC9⟩ := mid_nat (A := A) hfs hlc
  obtain ⟨htk, hRt⟩ := take_nat (A := A) (f := f) (by omega) hlc
  obtain ⟨A3, hct, hRc⟩ := cut_nat (A := A) hfs hlc
  have hsum := sumW_bound hg (by omega) f s
  have hsum2 : sumW l f s ≤ 8 * (s : Int) := by
    have := (good_sum (good_take (good_drop hg f) s)).2
    rw [List.length_take, List.length_drop] at this
    unfold sumW
    omega
  have CH : Aside0 (∀ w, Calls Tryd.prog 63 #[.int .i64 (sumW l f s), .int .i64 s] w fun e w' => ∃ rb, e = .returned (.tuple #[.slice (some ⟨rb, 0, none⟩) s s, .int .i64 0]) ∧ Sep w w' [Blk rb (nums .i64 (shrL (sumW l f s).toNat s)).toArray 3]) := ⟨fun w => by
    have := shares_yes (n := (sumW l f s).toNat) (s := s) (by omega) (by omega) (by omega) w
    rw [show (((sumW l f s).toNat : Nat) : Int) = sumW l f s by omega] at this
    exact this⟩
  have CS0 := Aside0.mk (fun W (h : Kd.C (Kd.int .i64) W A9 s ((l.drop f).take s)) => sum_any h HC9 (good_take (good_drop hg f) s) (by simp; omega))
  have HR9 := Aside0.mk hR9
  have HRt := Aside0.mk hRt
  have HRc := Aside0.mk hRc
  have i1 : (f : Int) ≤ (f : Int) + (s : Int) := by omega
  have hwr : IntKind.i64.wrap ((f : Int) + (s : Int)) = (f : Int) + (s : Int) := by rw [IntKind.wrap_i64]; omega
  clear hR9 hRt hRc hsum hsum2
  have hs0 := (Sep.nil w).new_blk #[.int .i64 1, .int .i64 f, .int .i64 s, .int .i64 (8 * (l.length : Int))] 41
  have HS := Aside0.mk hs0
  have HR := Aside0.mk hr
  have CK := Aside0.mk (check_any (c := c) (Kd.C_below hr hs0.below))
  have heq := fun w => eqS w
  have hgd := guardS
  clear hr hs0
  rw [h] at CK
  clear h hw hg hlc
  go_enter Tryd.func40, Tryd.ntmps40
  go_wp2_with fail
  refine CK.out.mono ?_
  clear CK
  rintro e w1 ⟨rfl, hd⟩
  replace HS := Aside0.mk (HS.out.step hd.below)
  clear hd
  have c0 : (_ : Option Value) = some (.int .i64 1) := (blk_cell (HS.out.blk 0 rfl) 0).trans rfl
  have c1 : (_ : Option Value) = some (.int .i64 f) := (blk_cell (HS.out.blk 0 rfl) 1).trans rfl
  have c2 : (_ : Option Value) = some (.int .i64 s) := (blk_cell (HS.out.blk 0 rfl) 2).trans rfl
  have c3 : (_ : Option Value) = some (.int .i64 (8 * (l.length : Int))) := (blk_cell (HS.out.blk 0 rfl) 3).trans rfl
  go_wp2_with fail
  refine (CM.out _).mono ?_
  clear CM c0 c1 c2 c3
  rintro e w2 ⟨rfl, hb⟩
  replace HS := Aside0.mk (HS.out.step hb)
  clear hb heq gA
  have c0 : (_ : Option Value) = some (.int .i64 1) := (blk_cell (HS.out.blk 0 rfl) 0).trans rfl
  have c1 : (_ : Option Value) = some (.int .i64 f) := (blk_cell (HS.out.blk 0 rfl) 1).trans rfl
  have c2 : (_ : Option Value) = some (.int .i64 s) := (blk_cell (HS.out.blk 0 rfl) 2).trans rfl
  have c3 : (_ : Option Value) = some (.int .i64 (8 * (l.length : Int))) := (blk_cell (HS.out.blk 0 rfl) 3).trans rfl
  have CS := Aside0.mk (CS0.out _ (HR9.out _ (Kd.C_below (Kd.C_below HR.out HS.out.below) (below_drew (Below.refl _ _)))))
  rw [show ((l.drop f).take s).sum = sumW l f s from rfl] at CS
  clear CS0
  go_wp2_with fail
  go_cut [8, 9] from 41 to 57 (fun v8 v9 W => ∃ rb : Nat, v8 = .slice (some ⟨rb, 0, none⟩) s s ∧ v9 = .int .i64 0 ∧ Aside0 (Sep w W [Blk w.heap.size #[.int .i64 1, .int .i64 f, .int .i64 s, .int .i64 (8 * (l.length : Int))] 41, S1.Own (.slice (some ⟨rb, 0, none⟩) s s) (shrL (sumW l f s).toNat s)]))
  case first =>
    go_region_with (first
      | (go_at_call 57; refine CS.out.mono ?_; rintro e w5 ⟨rfl, hd⟩; have z2 := pw_cell_below hd.below c2; have HD := Aside0.mk hd; clear hd)
      | (go_at_call 63; refine (CH.out _).mono ?_; rintro e w6 ⟨rb, rfl, hs⟩; have HS6 := Aside0.mk hs; clear hs))
    all_goals
      go_wp2
      go_meet
      case rel => exact ⟨rb, rfl, rfl, ⟨((HS.out.step (below_drew (Below.refl _ _))).step HD.out.below).append (sep_own (by omega) HS6.out)⟩⟩
  case rest =>
    clear c0 c1 c2 c3 CS CH HS
    obtain ⟨rb, rfl, rfl, HS⟩ := hcut
    have c0 : (_ : Option Value) = some (.int .i64 1) := (blk_cell (HS.out.blk 0 rfl) 0).trans rfl
    have c1 : (_ : Option Value) = some (.int .i64 f) := (blk_cell (HS.out.blk 0 rfl) 1).trans rfl
    have c2 : (_ : Option Value) = some (.int .i64 s) := (blk_cell (HS.out.blk 0 rfl) 2).trans rfl
    generalize wc = w3 at *
    have hb4 := below_drew (below_alloc (Below.refl w3.heap.size w3) (.cells #[.slice A f c, .slice (some ⟨rb, 0, none⟩) s s, .slice A3 (l.length - (f + s)) (c - (f + s))] 38))
    have hk0 := blk_below (blk_new w3 (.cells #[.slice A f c, .slice (some ⟨rb, 0, none⟩) s s, .slice A3 (l.length - (f + s)) (c - (f + s))] 38)) (below_drew (Below.refl _ _))
    have e0 : (l.take f).length = f := by rw [List.length_take]; omega
    have e2 : (l.drop (f + s)).length = l.length - (f + s) := by rw [List.length_drop]
    have hr2 := (HS.out.row 1 rfl).2.2
    have CC := Aside0.mk (concat_any (w := (w3.alloc (.cells #[.slice A f c, .slice (some ⟨rb, 0, none⟩) s s, .slice A3 (l.length - (f + s)) (c - (f + s))] 38)).drew) (pb := w3.heap.size) (f := rows3 A c l f s rb A3 (c - (f + s)))
      (fun i hi => by
        rw [blk_cell hk0 i]
        rcases (show i = 0 ∨ i = 1 ∨ i = 2 by omega) with rfl | rfl | rfl
        · simp [cell3, rows3, e0]
        · simp [cell3, rows3, shrL_len]
        · simp [cell3, rows3, e2])
      (fun i hi => by
        have hA := Kd.C_below (Kd.C_below HR.out HS.out.below) hb4
        rcases (show i = 0 ∨ i = 1 ∨ i = 2 by omega) with rfl | rfl | rfl
        · show Kd.C _ _ A (l.take f).length (l.take f)
          rw [e0]
          exact HRt.out _ hA
        · show Kd.C _ _ (some ⟨rb, 0, none⟩) (shrL (sumW l f s).toNat s).length (shrL (sumW l f s).toNat s)
          rw [shrL_len]
          exact Kd.C_below hr2 hb4
        · show Kd.C _ _ A3 (l.drop (f + s)).length (l.drop (f + s))
          rw [e2]
          exact HRc.out _ hA)
      (by rw [rows3_cat, spr_len hfs]; omega))
    rw [rows3_cat] at CC
    replace HS := Aside0.mk (HS.out.step hb4)
    have HL := Aside0.mk (spr_len hfs)
    clear hb4 hk0 e0 e2 hr2 HRt HRc HR HR9 hmid HC9
    go_wp2
    go_region_with (go_at_call 64; refine CC.out.mono ?_; rintro e w4 ⟨v, rfl, hs⟩; have HS4 := Aside0.mk hs; clear hs)
    all_goals
      go_wp2
      obtain ⟨A', c', ev, _⟩ := own_C (HS4.out.own 0 rfl)
      rw [HL.out] at ev
      subst ev
      go_ret2
      exact ⟨A', c', rfl, ((HS.out.append HS4.out).tail).tail⟩
end Go.Proofs.YtlaegahdignphaaDoor.N2
