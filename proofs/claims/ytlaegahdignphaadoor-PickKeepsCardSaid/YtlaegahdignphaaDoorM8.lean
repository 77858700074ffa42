/- Counts behind a step, plainly: which windows there are, which counts. -/
import Derived.Test.YtlaegahdignphaaDoorM7
import Derived.Test.YtlaegahdignphaaDoorSG
namespace Go.Proofs.YtlaegahdignphaaDoor.M8
open Go.RowKit Go.Shelf Go.Proofs.YtlaegahdignphaaDoorW.PrintWords Go.Proofs.YtlaegahdignphaaDoorW.PrintLast Go.Proofs.YtlaegahdignphaaDoorW.PrintMore Q1 Q2 L1 L3 S1 M1 M2 M3 M4 M7 SL SG
set_option linter.unusedVariables false
set_option linter.unusedSimpArgs false
set_option maxRecDepth 100000 in
theorem and_small : ∀ S : Nat, S < 513 → 1 ≤ S → ((Go.bits .and .i64 (S : Int) (wrap64 ((S : Int) - 1)) = 0) ↔ S ∈ ([1, 2, 4, 8, 16, 32, 64, 128, 256, 512] : List Nat)) := by decide +kernel
set_option maxRecDepth 100000 in
theorem and_first : ∀ S ∈ ([1, 2, 4, 8, 16, 32, 64, 128, 256, 512] : List Nat), ∀ F : Nat, F < 512 → (Go.bits .and .i64 (F : Int) (wrap64 ((S : Int) - 1)) == 0) = decide (F % S = 0) := by decide +kernel
/-- There is such a window. -/
def winOk (n : Nat) (F S : Int) : Prop := ∃ f s : Nat, F = f ∧ S = s ∧ s ∈ ([1, 2, 4, 8, 16, 32, 64, 128, 256, 512] : List Nat) ∧ f + s ≤ n ∧ f % s = 0
open Classical in
noncomputable def winOkB (n : Nat) (F S : Int) : Bool := decide (winOk n F S)
theorem may_f (K F S C : Int) (n : Nat) (hn : n ≤ 512) : pick_may.f K F S C (n : Int) = some (winOkB n F S) := by
  classical
  unfold pick_may.f winOkB
  by_cases h1 : S ≥ 1
  · rw [if_pos h1]
    by_cases h2 : S ≤ n
    · rw [if_pos h2]
      obtain ⟨s, rfl⟩ := Int.eq_ofNat_of_zero_le (show 0 ≤ S by omega)
      have hs := and_small s (by omega) (by omega)
      by_cases h3 : Go.bits .and .i64 (s : Int) (wrap64 ((s : Int) - 1)) = 0
      · rw [if_pos h3]
        have hm := hs.1 h3
        by_cases h4 : F ≥ 0
        · rw [if_pos h4]
          obtain ⟨f, rfl⟩ := Int.eq_ofNat_of_zero_le h4
          rw [w64 (x := (n : Int) - (s : Int)) (by omega) (by omega)]
          by_cases h5 : (f : Int) ≤ (n : Int) - (s : Int)
          · rw [if_pos h5]
            congr 1
            have := and_first s hm f (by omega)
            rw [this]
            apply decide_eq_decide.2
            constructor
            · intro h; exact ⟨f, s, rfl, rfl, hm, by omega, h⟩
            · rintro ⟨f', s', e1, e2, _, _, h⟩
              obtain rfl : f' = f := by omega
              obtain rfl : s' = s := by omega
              exact h
          · rw [if_neg h5]
            congr 1
            refine (decide_eq_false ?_).symm
            rintro ⟨f', s', e1, e2, _, h, _⟩
            omega
        · rw [if_neg h4]
          congr 1
          refine (decide_eq_false ?_).symm
          rintro ⟨f', s', e1, e2, _, h, _⟩
          omega
      · rw [if_neg h3]
        congr 1
        refine (decide_eq_false ?_).symm
        rintro ⟨f', s', e1, e2, h, _, _⟩
        obtain rfl : s' = s := by omega
        exact h3 (hs.2 h)
    · rw [if_neg h2]
      congr 1
      refine (decide_eq_false ?_).symm
      rintro ⟨f', s', e1, e2, _, h, _⟩
      omega
  · rw [if_neg h1]
    congr 1
    refine (decide_eq_false ?_).symm
    rintro ⟨f', s', e1, e2, h, _, _⟩
    have : 1 ≤ s' := by
      simp only [List.mem_cons, List.not_mem_nil, or_false] at h
      omega
    omega
theorem mayw_any (K F S C : Int) (n : Nat) (hn : n ≤ 512) (w : World) : Calls Tryd.prog 62 #[.agg #[.int .i64 K, .int .i64 F, .int .i64 S, .int .i64 C], .int .i64 n] w fun e w' => e = .returned (.bool (winOkB n F S)) ∧ Below w.heap.size w w' :=
  pick_may.calls K F S C n _ w (may_f K F S C n hn)
theorem eqA (w : World) (x0 y0 x1 y1 x2 y2 x3 y3 : Int) :
    (Op.equalIn 10000 41 (.agg #[.int .i64 x0, .int .i64 x1, .int .i64 x2, .int .i64 x3]) (.agg #[.int .i64 y0, .int .i64 y1, .int .i64 y2, .int .i64 y3])).run Tryd.prog w = .ok (x0 == y0 && (x1 == y1 && (x2 == y2 && (x3 == y3)))) w := by
  show (Op.equalIn (9998 + 2) 41 _ _).run Tryd.prog w = _
  refine eqA_of Tryd.underlying41 (by kernel_rfl) ?_
  refine eqf_cons (by rfl) (by go_simp; rfl) (by go_simp; rfl) (by go_simp) ?_
  refine eqf_cons (by rfl) (by go_simp; rfl) (by go_simp; rfl) (by go_simp) ?_
  refine eqf_cons (by rfl) (by go_simp; rfl) (by go_simp; rfl) (by go_simp) ?_
  exact eqf_last (by rfl) (by go_simp; rfl) (by go_simp; rfl) (by go_simp)
/-- Two steps are one. -/
def eqB (s t : Int × Int × Int × Int) : Bool := decide (s = t)
theorem eqS (w : World) (x0 y0 x1 y1 x2 y2 x3 y3 : Int) :
    (Op.equalIn 10000 41 (.agg #[.int .i64 x0, .int .i64 x1, .int .i64 x2, .int .i64 x3]) (.agg #[.int .i64 y0, .int .i64 y1, .int .i64 y2, .int .i64 y3])).run Tryd.prog w = .ok (eqB (x0, x1, x2, x3) (y0, y1, y2, y3)) w := by
  rw [eqA]
  congr 1
  unfold eqB
  rw [Bool.eq_iff_iff]
  simp
theorem guardS : Tryd.prog.eqGuardType Tryd.prog.depth 41 = false := by kernel_rfl
/-! ints: rows that are one. -/
theorem ints_loop {l m : List Int} (hl : l.length = m.length) (hn : l.length ≤ 1000000) (r : Bool) (hr : r = true ↔ l = m) : ∀ d i : Nat, i + d = l.length → (∀ j, j < i → l.getD j 0 = m.getD j 0) → Ev (fun k => punnetlaw05_ints.l0 k l m (i : Int)) r
  | 0, i, e, hj => by
    have hg : l = m := by
      apply List.ext_getElem hl
      intro j h1 h2
      have := hj j (by omega)
      simpa [List.getD_eq_getElem?_getD, h1, h2] using this
    refine Ev.step (f := fun _ => some true) (fun k => ?_) (hr.2 hg ▸ Ev.now _)
    show (if (i : Int) < (l.length : Int) then _ else _) = _
    rw [if_neg (by omega)]
  | d + 1, i, e, hj => by
    by_cases hb : l.getD i 0 = m.getD i 0
    · have ih := ints_loop hl hn r hr d (i + 1) (by omega) (fun j h => by
        by_cases e : j = i
        · rw [e]; exact hb
        · exact hj j (by omega))
      refine Ev.step (fun k => ?_) ih
      show (if (i : Int) < (l.length : Int) then _ else _) = _
      rw [if_pos (by omega), if_pos (by omega), if_pos (by omega), rd_nat, rd_nat, if_pos hb, w64 (x := (i : Int) + 1) (by omega) (by omega)]
      rfl
    · have h0 : r = false := by
        cases r with
        | false => rfl
        | true => exact absurd (by rw [hr.1 rfl]) hb
      refine Ev.step (f := fun _ => some false) (fun k => ?_) (h0 ▸ Ev.now _)
      show (if (i : Int) < (l.length : Int) then _ else _) = _
      rw [if_pos (by omega), if_pos (by omega), if_pos (by omega), rd_nat, rd_nat, if_neg hb]
theorem ints_ev (l m : List Int) (hn : l.length ≤ 1000000) : Ev (fun k => punnetlaw05_ints.f k l m) (decide (l = m)) := by
  by_cases hl : l.length = m.length
  · refine Ev.congr (f := fun k => punnetlaw05_ints.l0 k l m ((0 : Nat) : Int)) (fun k => ?_) (ints_loop hl hn _ (by simp) l.length 0 (by omega) (fun j hj => by omega))
    unfold punnetlaw05_ints.f
    rw [if_pos (by omega)]
    rfl
  · rw [decide_eq_false (fun e => hl (by rw [e]))]
    refine Ev.congr (f := fun k => some false) (fun k => ?_) (Ev.now _)
    unfold punnetlaw05_ints.f
    rw [if_neg (by omega)]
theorem ints_any {w : World} {A0 A1 : Option Addr} {c0 c1 : Nat} {l m : List Int} {n1 n2 : Nat} (hr0 : Kd.C (Kd.int .i64) w A0 n1 l) (h0 : n1 ≤ c0) (hr1 : Kd.C (Kd.int .i64) w A1 n2 m) (h1 : n2 ≤ c1) (hn : l.length ≤ 1000000) :
    Calls Tryd.prog 42 #[.slice A0 n1 c0, .slice A1 n2 c1] w fun e w' => e = .returned (.bool (decide (l = m))) ∧ Drawn0 w w' := by
  obtain rfl := hr0.1
  obtain rfl := hr1.1
  obtain ⟨k, hk⟩ := ints_ev l m hn
  exact punnetlaw05_ints.calls k A0 c0 l A1 c1 m _ w hr0 h0 hr1 h1 (hk k (Nat.le_refl _))
theorem total_any {w : World} {A : Option Addr} {c n : Nat} {l : List Int} (hr : Kd.C (Kd.int .i64) w A n l) (hc : n ≤ c) (hg : goodL l) (hl : l.length ≤ 4096) :
    Calls Tryd.prog 43 #[.slice A n c] w fun e w' => e = .returned (.int .i64 l.sum) ∧ Drawn0 w w' := by
  obtain rfl := hr.1
  obtain ⟨k, hk⟩ := total_ev hg hl
  exact punnetlaw05_total.calls k A c l _ w hr hc (hk k (Nat.le_refl _))
end Go.Proofs.YtlaegahdignphaaDoor.M8
