/- What the reference of pick computes. -/
import Derived.Test.YtlaegahdignphaaDoorM3
import Derived.Test.YtlaegahdignphaaDoorM4
namespace Go.Proofs.YtlaegahdignphaaDoor.M7
open Go.RowKit Go.Proofs.YtlaegahdignphaaDoorW.PrintWords Go.Proofs.YtlaegahdignphaaDoorW.PrintLast Go.Proofs.YtlaegahdignphaaDoorW.PrintMore Q1 Q2 L1 L3 S1 M1 M2 M3 M4
set_option linter.unusedVariables false
set_option linter.unusedSimpArgs false

theorem refHeight_ev {l : List Int} (hl : l.length ≤ 4096) : Ev (fun k => punnetref03_Height.f k (wrap64 (8 * (l.length : Int)))) (refH (8 * (l.length : Int))) := by
  rw [w64 (by omega) (by omega)]
  refine Ev.of (k := 20) (punnetref03_Height.mono _) ?_
  unfold refH
  cases hc : capB (8 * (l.length : Int)) with
  | true => exact (height_cap _ (cap_mem hc)).1
  | false => exact height_no hc
theorem refCheck_loop {l : List Int} (hl : l.length ≤ 4096) (r : Int) (hr : (goodL l ∧ r = 0) ∨ (¬ goodL l ∧ r = 1)) : ∀ d i : Nat, i + d = l.length → (∀ j, j < i → 0 ≤ l.getD j 0 ∧ l.getD j 0 ≤ 8) → Ev (fun k => punnetref05_Check.l0 k l (i : Int)) r
  | 0, i, e, hj => by
    have hg : goodL l := fun j h => hj j (by omega)
    have h0 : r = 0 := by
      rcases hr with h | h
      · exact h.2
      · exact absurd hg h.1
    refine Ev.step (f := fun _ => some 0) (fun k => ?_) (h0 ▸ Ev.now _)
    show (if (i : Int) < (l.length : Int) then _ else _) = _
    rw [if_neg (by omega)]
  | d + 1, i, e, hj => by
    by_cases hb : 0 ≤ l.getD i 0 ∧ l.getD i 0 ≤ 8
    · have ih := refCheck_loop hl r hr d (i + 1) (by omega) (fun j h => by
        by_cases e : j = i
        · rw [e]; exact hb
        · exact hj j (by omega))
      refine Ev.step (fun k => ?_) ih
      show (if (i : Int) < (l.length : Int) then _ else _) = _
      rw [if_pos (by omega), if_pos (by omega), rd_nat, if_neg (by omega), if_neg (by omega), w64 (x := (i : Int) + 1) (by omega) (by omega)]
      rfl
    · have hg : ¬ goodL l := fun h => hb (h i (by omega))
      have h0 : r = 1 := by
        rcases hr with h | h
        · exact absurd h.1 hg
        · exact h.2
      refine Ev.step (f := fun _ => some 1) (fun k => ?_) (h0 ▸ Ev.now _)
      show (if (i : Int) < (l.length : Int) then _ else _) = _
      rw [if_pos (by omega), if_pos (by omega), rd_nat]
      by_cases h2 : l.getD i 0 < 0
      · rw [if_pos h2]
      · rw [if_neg h2, if_pos (by omega)]
theorem refCheck_ev {l : List Int} (hl : l.length ≤ 4096) : Ev (fun k => punnetref05_Check.f k l) (ckE l) := by
  refine Ev.bind (refHeight_ev hl) ?_
  cases hc : capB (8 * (l.length : Int)) with
  | false =>
    have hE : ckE l = 10 := by unfold ckE; rw [hc]; rfl
    rw [hE]
    unfold refH
    rw [hc]
    exact Ev.now _
  | true =>
    obtain ⟨h1, h2, h3, h4⟩ := caps _ (cap_mem hc)
    unfold refH
    rw [hc, if_pos rfl]
    refine Ev.congr (f := fun k => punnetref05_Check.l0 k l ((0 : Nat) : Int)) (fun k => ?_) (refCheck_loop hl _ ?_ l.length 0 (by omega) (fun j hj => by omega))
    · show (if _ < 0 then _ else _) = _
      rw [if_neg (by omega)]
      rfl
    · unfold ckE
      rw [hc, if_pos rfl]
      by_cases hg : goodL l
      · exact .inl ⟨hg, if_pos hg⟩
      · exact .inr ⟨hg, if_neg hg⟩
theorem ck_zero {l : List Int} (h : ckE l = 0) : capB (8 * (l.length : Int)) = true ∧ goodL l := by
  unfold ckE at h
  cases hc : capB (8 * (l.length : Int)) with
  | false => rw [hc] at h; simp at h
  | true =>
    rw [hc, if_pos rfl] at h
    by_cases hg : goodL l
    · exact ⟨rfl, hg⟩
    · rw [if_neg hg] at h; omega
theorem ck_of {l : List Int} (h : capB (8 * (l.length : Int)) = true) (hg : goodL l) : ckE l = 0 := by
  unfold ckE
  rw [h, if_pos rfl, if_pos hg]
theorem refWithin_f {n l h : Int} (hm : mayB l h = true) (h0 : 0 ≤ n) : punnetref03_Within.f 19 n l h = some (withN n l h) := by
  have hd := of_decide_eq_true hm
  obtain ⟨hb, hp19, hp18, hM, hF⟩ := many_small hm
  have hmul := mul_bounds (n := n) hd.1 hd.2.1 h0
  unfold punnetref03_Within.f withN
  by_cases h1 : n > 100000
  · have : h * n > manyN l h := by
      have : h * 100001 ≤ h * n := Int.mul_le_mul_of_nonneg_left (by omega) (by omega)
      omega
    rw [if_pos h1, if_pos this]
    rfl
  · rw [if_neg h1]
    unfold punnetref03_Many.f
    rw [hp19, Option.bind_some, Option.bind_some, hM, w64r (x := h * n) (by omega) (by omega)]
    rw [j1_eq]
    by_cases h2 : h * n > manyN l h
    · rw [decide_eq_true h2, if_pos h2]; rfl
    · rw [decide_eq_false h2, if_neg h2, if_neg Bool.false_ne_true, refFew_f hm h0 (by omega) 18 hp18, Option.bind_some]
      by_cases h3 : h * n < fewN l h
      · rw [decide_eq_true h3, if_pos h3]; rfl
      · rw [decide_eq_false h3, if_neg h3]; rfl
theorem refWithin_ev {n l h : Int} (hm : mayB l h = true) (h0 : 0 ≤ n) : Ev (fun k => punnetref03_Within.f k n l h) (withN n l h) := Ev.of (k := 19) (punnetref03_Within.mono _ _ _) (refWithin_f hm h0)
theorem refWindow_ev {s k : Nat} (hs : s < 512) (hk : k ≤ 9) : Ev (fun f => punnetref03_Window.f f (s : Int) (k : Int)) ((wF s k : Nat), (pw k : Nat)) := by
  refine Ev.of (k := 20) (punnetref03_Window.mono _ _) ?_
  rw [(win_small k (by omega) s hs).2, wFirst_nat, wMany_nat]
  rfl
theorem may_of {l : List Int} (hcp : Caps l) {k : Nat} (hk : k ≤ hN l) : mayB (k : Int) (hN l : Int) = true := decide_eq_true (by have := hcp.h2; have := hcp.h9; omega)
theorem wF_in {l : List Int} (hcp : Caps l) {s k : Nat} (hs : s < l.length) (hk : k ≤ hN l) : wF s k + pw k ≤ l.length := by
  rw [hcp.len] at hs ⊢
  exact wF_le hs hk
theorem refLevel_loop {l : List Int} (hg : goodL l) (hcp : Caps l) {s : Nat} (hs : s < l.length) : ∀ d k : Nat, k + d = hN l + 1 → (∀ j, j < k → okW l s j = false) → Ev (fun f => punnetref05_Level.l0 f l (s : Int) (hN l : Int) (k : Int)) (lvlI l s)
  | 0, k, e, hj => by
    have hn : lvlI l s = -1 := by unfold lvlI; rw [lvl_none fun j hj' => hj j (by omega)]
    rw [hn]
    refine Ev.step (f := fun _ => some (-1)) (fun k => ?_) (Ev.now _)
    show (if (_ : Int) ≤ _ then _ else _) = _
    rw [if_neg (by omega)]
  | d + 1, k, e, hj => by
    have h9 := hcp.h9
    have hl := hcp.le
    have hkh : k ≤ hN l := by omega
    have E : Ev (fun f => if withN (sumW l (wF s k) (pw k)) (k : Int) (hN l : Int) = 0 then some (k : Int) else punnetref05_Level.l0 f l (s : Int) (hN l : Int) (wrap64 ((k : Int) + 1))) (lvlI l s) := by
      by_cases h0 : withN (sumW l (wF s k) (pw k)) (k : Int) (hN l : Int) = 0
      · have hk : okW l s k = true := by unfold okW; exact beq_iff_eq.2 h0
        have hn : lvlI l s = k := by unfold lvlI; rw [lvl_some hkh hk hj]
        rw [hn]
        exact Ev.congr (fun f => if_pos h0) (Ev.now _)
      · have hk : okW l s k = false := by unfold okW; exact beq_eq_false_iff_ne.2 h0
        have ih := refLevel_loop hg hcp hs d (k + 1) (by omega) (fun j h => by
          by_cases e : j = k
          · rw [e]; exact hk
          · exact hj j (by omega))
        refine Ev.congr (fun f => ?_) ih
        rw [if_neg h0, w64 (x := (k : Int) + 1) (by omega) (by omega)]
        rfl
    refine Ev.step (f := fun f => (punnetref03_Window.f f (s : Int) (k : Int)).bind fun bt135 => ((punnetref05_Sum.f f l bt135.1 bt135.2).bind fun t137 => ((punnetref03_Within.f f t137 (k : Int) (hN l : Int)).bind fun t138 => (if t138 = 0 then (some (k : Int)) else (punnetref05_Level.l0 f l (s : Int) (hN l : Int) (wrap64 ((k : Int) + 1))))))) (fun f => ?_) ?_
    · show (if (_ : Int) ≤ _ then _ else _) = _
      rw [if_pos (by omega)]
    · exact Ev.bind (f := fun f bt135 => ((punnetref05_Sum.f f l bt135.1 bt135.2).bind fun t137 => ((punnetref03_Within.f f t137 (k : Int) (hN l : Int)).bind fun t138 => (if t138 = 0 then (some (k : Int)) else (punnetref05_Level.l0 f l (s : Int) (hN l : Int) (wrap64 ((k : Int) + 1))))))) (refWindow_ev (by omega) (by omega))
        (Ev.bind (f := fun f t137 => ((punnetref03_Within.f f t137 (k : Int) (hN l : Int)).bind fun t138 => (if t138 = 0 then (some (k : Int)) else (punnetref05_Level.l0 f l (s : Int) (hN l : Int) (wrap64 ((k : Int) + 1)))))) (refSum_ev hg (by omega) (wF_in hcp hs hkh))
          (Ev.bind (f := fun f t138 => if t138 = 0 then (some (k : Int)) else (punnetref05_Level.l0 f l (s : Int) (hN l : Int) (wrap64 ((k : Int) + 1)))) (refWithin_ev (may_of hcp hkh) (sumW_bound hg (by omega) _ _).1) E))
theorem refH_of {l : List Int} (hcp : Caps l) (hc : capB (8 * (l.length : Int)) = true) : refH (8 * (l.length : Int)) = hN l := by
  unfold refH
  rw [hc, if_pos rfl, hcp.h]
theorem refLevel_ev {l : List Int} (hg : goodL l) (hcp : Caps l) (hc : capB (8 * (l.length : Int)) = true) {s : Nat} (hs : s < l.length) : Ev (fun f => punnetref05_Level.f f l (s : Int)) (lvlI l s) := by
  have h := refHeight_ev (l := l) (by have := hcp.le; omega)
  rw [refH_of hcp hc] at h
  exact Ev.bind (f := fun f t134 => punnetref05_Level.l0 f l (s : Int) t134 0) h (refLevel_loop hg hcp hs (hN l + 1) 0 (by omega) (fun j hj => by omega))
/-- What Pick tells of counts that are right. -/
def pickN (l : List Int) (s : Nat) : Int × Int × Int × Int × Int := match lvl l s with
  | some k => (1, (wF s k : Nat), (pw k : Nat), 8 * (l.length : Int), 0)
  | none => if withN l.sum (hN l) (hN l) < 0 then (3, 0, (l.length / 2 : Nat), 4 * (l.length : Int), 0) else if l.length = 512 then (0, 0, 0, 0, 16) else (2, 0, 2 * (l.length : Int), 16 * (l.length : Int), 0)
theorem h9_iff {l : List Int} (hcp : Caps l) : (hN l : Int) = 9 ↔ l.length = 512 := by
  rw [hcp.len]
  constructor
  · intro h
    rw [show hN l = 9 by omega]
  · intro h
    have h9 := hcp.h9
    rcases Nat.lt_or_ge (hN l) 9 with h1 | h1
    · have : 2 ^ hN l ≤ 2 ^ 8 := Nat.pow_le_pow_right (by omega) (by omega)
      omega
    · omega
theorem refPick_ev {l : List Int} (hg : goodL l) (hcp : Caps l) (hc : capB (8 * (l.length : Int)) = true) {s : Nat} (hs : s < l.length) : Ev (fun f => punnetref05_Pick.f f l (s : Int)) (pickN l s) := by
  have hl := hcp.le
  have h9 := hcp.h9
  have h := refHeight_ev (l := l) (by omega)
  rw [refH_of hcp hc] at h
  have hL := refLevel_ev hg hcp hc hs
  unfold pickN
  unfold lvlI at hL
  refine Ev.bind (f := fun f t140 => (punnetref05_Level.f f l (s : Int)).bind fun t141 => (if t141 ≥ 0 then ((punnetref03_Window.f f (s : Int) t141).bind fun bt142 => (some (1, bt142.1, bt142.2, wrap64 (8 * (l.length : Int)), 0))) else ((punnetref05_Sum.f f l 0 (l.length : Int)).bind fun t144 => ((punnetref03_Within.f f t144 t140 t140).bind fun t145 => (if t145 < 0 then (some (3, 0, wrap64 ((l.length : Int) / 2), wrap64 (4 * (l.length : Int)), 0)) else (if t140 = 9 then (some (0, 0, 0, 0, 16)) else (some (2, 0, wrap64 (2 * (l.length : Int)), wrap64 (16 * (l.length : Int)), 0)))))))) h ?_
  refine Ev.bind (f := fun f t141 => (if t141 ≥ 0 then ((punnetref03_Window.f f (s : Int) t141).bind fun bt142 => (some (1, bt142.1, bt142.2, wrap64 (8 * (l.length : Int)), 0))) else ((punnetref05_Sum.f f l 0 (l.length : Int)).bind fun t144 => ((punnetref03_Within.f f t144 (hN l : Int) (hN l : Int)).bind fun t145 => (if t145 < 0 then (some (3, 0, wrap64 ((l.length : Int) / 2), wrap64 (4 * (l.length : Int)), 0)) else (if (hN l : Int) = 9 then (some (0, 0, 0, 0, 16)) else (some (2, 0, wrap64 (2 * (l.length : Int)), wrap64 (16 * (l.length : Int)), 0)))))))) hL ?_
  rw [w64 (x := 8 * (l.length : Int)) (by omega) (by omega), w64 (x := (l.length : Int) / 2) (by omega) (by omega), w64 (x := 4 * (l.length : Int)) (by omega) (by omega), w64 (x := 2 * (l.length : Int)) (by omega) (by omega), w64 (x := 16 * (l.length : Int)) (by omega) (by omega)]
  cases hk : lvl l s with
  | some k =>
    dsimp only
    have hkh := (lvl_is hk).1
    refine Ev.congr (fun f => if_pos (by omega)) ?_
    exact Ev.bind (f := fun f bt142 => some ((1 : Int), bt142.1, bt142.2, 8 * (l.length : Int), (0 : Int))) (refWindow_ev (s := s) (k := k) (by omega) (by omega)) (Ev.now _)
  | none =>
    dsimp only
    refine Ev.congr (fun f => if_neg (by omega)) ?_
    have hs0 := refSum_ev hg (by omega) (f := 0) (n := l.length) (by omega)
    have hsum : sumW l 0 l.length = l.sum := by simp [sumW]
    rw [hsum] at hs0
    have hb := good_sum hg
    refine Ev.bind (f := fun f t144 => ((punnetref03_Within.f f t144 (hN l : Int) (hN l : Int)).bind fun t145 => (if t145 < 0 then (some (3, 0, (l.length : Int) / 2, 4 * (l.length : Int), 0)) else (if (hN l : Int) = 9 then (some (0, 0, 0, 0, 16)) else (some (2, 0, 2 * (l.length : Int), 16 * (l.length : Int), 0)))))) hs0 ?_
    refine Ev.bind (f := fun f t145 => (if t145 < 0 then (some (3, 0, (l.length : Int) / 2, 4 * (l.length : Int), 0)) else (if (hN l : Int) = 9 then (some (0, 0, 0, 0, 16)) else (some (2, 0, 2 * (l.length : Int), 16 * (l.length : Int), 0))))) (refWithin_ev (may_of hcp (Nat.le_refl _)) hb.1) ?_
    by_cases h1 : withN l.sum (hN l) (hN l) < 0
    · rw [if_pos h1, if_pos h1, show ((l.length / 2 : Nat) : Int) = (l.length : Int) / 2 by omega]
      exact Ev.now _
    · rw [if_neg h1, if_neg h1]
      by_cases h2 : l.length = 512
      · rw [if_pos h2]
        exact Ev.congr (fun f => if_pos ((h9_iff hcp).2 h2)) (Ev.now _)
      · rw [if_neg h2]
        exact Ev.congr (fun f => if_neg fun e => h2 ((h9_iff hcp).1 e)) (Ev.now _)
end Go.Proofs.YtlaegahdignphaaDoor.M7
