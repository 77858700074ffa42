/- Level and Pick: contracts. -/
import Derived.Test.YtlaegahdignphaaDoorM6
import Derived.Test.YtlaegahdignphaaDoorM7
namespace Go.Proofs.YtlaegahdignphaaDoor.N3
open Go.RowKit Go.Shelf Go.Proofs.YtlaegahdignphaaDoorW.PrintWords Go.Proofs.YtlaegahdignphaaDoorW.PrintLast Go.Proofs.YtlaegahdignphaaDoorW.PrintMore Q1 Q2 L1 L3 S1 M1 M2 M3 M4 M5 M6 M7
set_option linter.unusedVariables false
set_option linter.unusedSimpArgs false

/-- What is wrong with counts, or with a segment. -/
noncomputable def wrg (l : List Int) (s : Int) : Int := if ckE l ≠ 0 then ckE l else if s < 0 ∨ (l.length : Int) ≤ s then 10 else 0
theorem wrg_zero {l : List Int} {s : Int} (h : wrg l s = 0) : ckE l = 0 ∧ capB (8 * (l.length : Int)) = true ∧ goodL l ∧ Caps l ∧ ∃ t : Nat, s = t ∧ t < l.length := by
  unfold wrg at h
  by_cases h1 : ckE l ≠ 0
  · rw [if_pos h1] at h; exact absurd h h1
  · rw [if_neg h1] at h
    have h2 : ¬ (s < 0 ∨ (l.length : Int) ≤ s) := by
      intro hc; rw [if_pos hc] at h; omega
    have h0 : ckE l = 0 := by simpa using h1
    obtain ⟨hc, hg⟩ := ck_zero h0
    obtain ⟨t, rfl⟩ := Int.eq_ofNat_of_zero_le (show 0 ≤ s by omega)
    exact ⟨h0, hc, hg, caps_of hc, t, rfl, by omega⟩
section
variable {w : World} {A : Option Addr} {c : Nat} {l : List Int}
theorem find_bad (hr : Kd.C (Kd.int .i64) w A l.length l) (s : Int) (h : wrg l s ≠ 0) :
    Calls Tryd.prog 56 #[.slice A l.length c, .int .i64 s] w fun e w' => e = .returned (.tuple #[.agg #[.int .i64 0, .int .i64 0, .int .i64 0], .int .i64 0, .bool false, .int .i64 (wrg l s)]) ∧ Below w.heap.size w w' := by
  by_cases h1 : ckE l ≠ 0
  · rw [show wrg l s = ckE l by unfold wrg; rw [if_pos h1]]
    exact find_wrong hr s h1
  · have h2 : s < 0 ∨ (l.length : Int) ≤ s := by
      apply Classical.byContradiction
      intro hc
      exact h (by unfold wrg; rw [if_neg h1, if_neg hc])
    rw [show wrg l s = 10 by unfold wrg; rw [if_neg h1, if_pos h2]]
    exact find_out hr s (by simpa using h1) h2
theorem level_bad (hr : Kd.C (Kd.int .i64) w A l.length l) (s : Int) (h : wrg l s ≠ 0) :
    Calls Tryd.prog 34 #[.slice A l.length c, .int .i64 s] w fun e w' => e = .returned (.tuple #[.int .i64 0, .int .i64 (wrg l s)]) ∧ Below w.heap.size w w' := level_err h (find_bad hr s h)
theorem pick_bad (hr : Kd.C (Kd.int .i64) w A l.length l) (s : Int) (h : wrg l s ≠ 0) :
    Calls Tryd.prog 35 #[.slice A l.length c, .int .i64 s] w fun e w' => e = .returned (.tuple #[.agg step0, .int .i64 (wrg l s)]) ∧ Below w.heap.size w w' := pick_err h fun W hb => find_bad (Kd.C_below hr hb) s h
theorem level_good (hr : Kd.C (Kd.int .i64) w A l.length l) (hlc : l.length ≤ c) (hT : Tb w) {s : Nat} (h : wrg l s = 0) :
    Calls Tryd.prog 34 #[.slice A l.length c, .int .i64 s] w fun e w' => e = .returned (.tuple #[.int .i64 (lvlI l s), .int .i64 0]) ∧ Below w.heap.size w w' := by
  obtain ⟨h0, hc, hg, hcp, t, ht, hs⟩ := wrg_zero h
  have F := find_yes hr hlc hT s h0 hc hg (by omega)
  unfold fndV at F
  unfold lvlI
  cases hk : lvl l s with
  | some k =>
    rw [hk] at F
    exact level_some F
  | none =>
    rw [hk] at F
    exact level_none F
/-- What Pick tells, as a value. -/
def pickV (l : List Int) (s : Nat) : Value := .tuple #[.agg #[.int .i64 (pickN l s).1, .int .i64 (pickN l s).2.1, .int .i64 (pickN l s).2.2.1, .int .i64 (pickN l s).2.2.2.1], .int .i64 (pickN l s).2.2.2.2]
theorem okW_root {l : List Int} (hcp : Caps l) {s : Nat} (hs : s < l.length) (h : okW l s (hN l) = false) : withN l.sum (hN l) (hN l) ≠ 0 := by
  unfold okW at h
  have e1 : wF s (hN l) = 0 := by
    unfold wF
    rw [Nat.mod_eq_of_lt (by rw [← hcp.len]; exact hs)]
    omega
  have e2 : sumW l 0 (2 ^ hN l) = l.sum := by
    rw [← hcp.len]
    simp [sumW]
  rw [e1, e2] at h
  exact beq_eq_false_iff_ne.1 h
theorem pick_good (hr : Kd.C (Kd.int .i64) w A l.length l) (hlc : l.length ≤ c) (hT : Tb w) {s : Nat} (h : wrg l s = 0) :
    Calls Tryd.prog 35 #[.slice A l.length c, .int .i64 s] w fun e w' => e = .returned (pickV l s) ∧ Below w.heap.size w w' := by
  obtain ⟨h0, hc, hg, hcp, t, ht, hs⟩ := wrg_zero h
  obtain rfl : s = t := by omega
  have F := fun (W : World) (hb : Below w.heap.size w W) => find_yes (Kd.C_below hr hb) hlc (Kd.C_below hT hb) s h0 hc hg hs
  unfold fndV at F
  unfold pickV pickN
  cases hk : lvl l s with
  | some k =>
    simp only [hk] at F
    exact pick_some hcp.le F
  | none =>
    simp only [hk] at F
    have hx := okW_root hcp hs (lvl_not hk _ (Nat.le_refl _))
    have := pick_none hr hlc hg hcp F hx
    unfold noneV at this
    dsimp only
    by_cases h1 : withN l.sum (hN l) (hN l) < 0
    · rw [if_pos h1] at this ⊢
      exact this
    · rw [if_neg h1] at this ⊢
      by_cases h2 : l.length = 512
      · rw [if_pos h2] at this ⊢
        exact this
      · rw [if_neg h2] at this ⊢
        exact this
theorem refCheck_any (hr : Kd.C (Kd.int .i64) w A l.length l) (hlc : l.length ≤ c) (hl : l.length ≤ 4096) : Calls Tryd.prog 36 #[.slice A l.length c] w fun e w' => e = .returned (.int .i64 (ckE l)) ∧ Drawn0 w w' := by
  obtain ⟨k, hk⟩ := refCheck_ev hl
  exact punnetref05_Check.calls k A c l _ w hr hlc (hk k (Nat.le_refl _))
theorem refLevel_any (hr : Kd.C (Kd.int .i64) w A l.length l) (hlc : l.length ≤ c) {s : Nat} (h : wrg l s = 0) : Calls Tryd.prog 39 #[.slice A l.length c, .int .i64 s] w fun e w' => e = .returned (.int .i64 (lvlI l s)) ∧ Drawn0 w w' := by
  obtain ⟨h0, hc, hg, hcp, t, ht, hs⟩ := wrg_zero h
  obtain ⟨k, hk⟩ := refLevel_ev hg hcp hc (s := s) (by omega)
  exact punnetref05_Level.calls k A c l s _ w hr hlc (hk k (Nat.le_refl _))
theorem refPick_any (hr : Kd.C (Kd.int .i64) w A l.length l) (hlc : l.length ≤ c) {s : Nat} (h : wrg l s = 0) : Calls Tryd.prog 38 #[.slice A l.length c, .int .i64 s] w fun e w' => e = .returned (pickV l s) ∧ Below w.heap.size w w' := by
  obtain ⟨h0, hc, hg, hcp, t, ht, hs⟩ := wrg_zero h
  obtain ⟨k, hk⟩ := refPick_ev hg hcp hc (s := s) (by omega)
  exact punnetref05_Pick.calls k A c l s _ _ _ _ _ w hr hlc (hk k (Nat.le_refl _))
end
end Go.Proofs.YtlaegahdignphaaDoor.N3
