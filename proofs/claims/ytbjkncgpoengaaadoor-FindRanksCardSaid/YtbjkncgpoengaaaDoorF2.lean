/- Walks of the search of keys: its tests, the search by halves, Lower, Upper, Before, Exact. -/
import Derived.Test.YtbjkncgpoengaaaDoorF1
import Derived.Test.YtbjkncgpoengaaaDoorG11
import Derived.ScopeJumps
namespace Go.Proofs.YtbjkncgpoengaaaDoor.F2
open Go.RowKit Go.Proofs.YtbjkncgpoengaaaDoorW.PrintWords Go.Proofs.YtbjkncgpoengaaaDoorW.PrintLast Go.Proofs.YtbjkncgpoengaaaDoorW.PrintMore G1 G0 Q1 G2 G3 G4 G5 G6 G7 G8 G9 G10 G11 F1
set_option linter.unusedVariables false
set_option linter.unusedSimpArgs false

theorem wp_scope_back {P : Program} {a : Act} {w : World} {Q : Exit → Act → World → Prop} {c tail : Code} (l : Nat) (J : Act → World → Prop) (μ : Act → World → Nat) (hf : findLabel c l = some (Code.seq .skip tail))
    (pass : ∀ a w, J a w → tail.wp P (Exit.jump l (fun a' w' => J a' w' ∧ μ a' w' < μ a w) Q) a w)
    (first : (∀ a w, J a w → tail.wp P (Exit.jump l J Q) a w) → c.wp P (Exit.jump l J Q) a w) : (Code.scope c).wp P Q a w := by
  refine wp_scope_jumps l J μ hf (first fun a w h => wp_mono (pass a w h) ?_) (fun a w h => wp_seq (wp_skip (pass a w h)))
  intro e a w h
  cases e <;> first | exact ⟨h.1, h.2.1⟩ | exact h
/-- The test that is asked. -/
def Tells (K : Nat) (kb : Nat) (key : Int) (q : Int → Bool) : Prop := ∀ (x : Int) (w : World), w.heap[kb]? = some (.cells #[.int .i64 key] 3 (0, 0)) → Calls Tryd.prog K #[.int .i64 x, .pointer (some ⟨kb, 0, none⟩)] w fun e w' => e = .returned (.bool (q x)) ∧ Drawn0 w w'
def lt_ (key : Int) : Int → Bool := fun k => decide (k < key)
def le_ (key : Int) : Int → Bool := fun k => decide (k ≤ key)
theorem tells_lt (kb : Nat) (key : Int) : Tells 64 kb key (lt_ key) := by
  intro x w hk
  have c0 : w.cell? ⟨kb, 0, none⟩ = some (.int .i64 key) := (blk_cell hk 0).trans rfl
  clear hk
  go_enter Tryd.func64, Tryd.ntmps64
  go_wp2
  go_ret
  exact ⟨rfl, Drawn0.refl _⟩
theorem tells_le (kb : Nat) (key : Int) : Tells 65 kb key (le_ key) := by
  intro x w hk
  have c0 : w.cell? ⟨kb, 0, none⟩ = some (.int .i64 key) := (blk_cell hk 0).trans rfl
  clear hk
  go_enter Tryd.func65, Tryd.ntmps65
  go_wp2
  go_ret
  exact ⟨rfl, Drawn0.refl _⟩
set_option maxHeartbeats 4000000 in
set_option maxRecDepth 100000 in
theorem search_lt {w : World} {p sb ob wb n : Nat} {f : Nat → Bool} {xs : List Int} {vs : List Nat} (h : SlAt w p sb ob wb n f xs vs) (hT : Tb w) {kb : Nat} {key : Int} {q : Int → Bool} (hq : Tells 64 kb key q) (hk : w.heap[kb]? = some (.cells #[.int .i64 key] 3 (0, 0))) :
    Calls Tryd.prog 63 #[.pointer (some ⟨p, 0, none⟩), .func (.func 64) #[] #[.pointer (some ⟨kb, 0, none⟩)]] w fun e w' => e = .returned (.tuple #[.int .i64 (srch f xs n q).1, .int .i64 (srch f xs n q).2]) ∧ Below w.heap.size w w' := by
  have HS := Aside0.mk h
  have HT := Aside0.mk hT
  have HK := Aside0.mk hk
  have HQ := Aside0.mk hq
  have hn := h.bits.high
  have HC := Aside0.mk (cap_any h)
  clear h hT hk hq
  go_enter Tryd.func63, Tryd.ntmps63
  go_wp2
  refine wp_scope_back 0 (fun a' w' => ∃ (lo hi c : Nat) (r : Int) (u10 u11 u12 u13 u14 u15 u16 u17 u18 u19 u20 u21 u22 u23 u24 u25 u26 u27 u28 u29 u30 u31 u32 u33 u34 u35 u36 u37 u38 u39 u40 u41 u42 u43 u44 u45 u46 u47 u48 u49 u50 u51 u52 : Value), a' = { tmps := #[.pointer (some ⟨p, 0, none⟩), .func (.func 64) #[] #[.pointer (some ⟨kb, 0, none⟩)], undef, undef, .int .i64 0, .int .i64 0, .int .i64 lo, .int .i64 hi, .int .i64 r, .int .i64 c, u10, u11, u12, u13, u14, u15, u16, u17, u18, u19, u20, u21, u22, u23, u24, u25, u26, u27, u28, u29, u30, u31, u32, u33, u34, u35, u36, u37, u38, u39, u40, u41, u42, u43, u44, u45, u46, u47, u48, u49, u50, u51, u52], defers := [] } ∧ Aside0 (∃ k, hi - lo < k ∧ half f xs n q k lo hi r c = srch f xs n q) ∧ hi ≤ n ∧ c + (hi - lo) ≤ n ∧ Aside0 (Below w.heap.size w w'))
    (fun a' _ => (intOf (a'.tmps.getD 7 undef)).toNat - (intOf (a'.tmps.getD 6 undef)).toNat) rfl ?pass ?first
  case first =>
    intro hlabel
    have HL := Aside0.mk hlabel
    clear hlabel
    go_wp2_with fail
    refine HC.out.mono ?_
    rintro e w1 ⟨rfl, rfl⟩
    go_wp2
    go_step3
    simp only [Exit.then]
    apply_assumption
    exact HL.out _ _ ⟨0, n, 0, -1, _, _, _, _, _, _, _, _, _, _, _, _, _, _, _, _, _, _, _, _, _, _, _, _, _, _, _, _, _, _, _, _, _, _, _, _, _, _, _, _, _, _, _, rfl, ⟨n + 1, by omega, rfl⟩, by omega, by omega, ⟨Below.refl _ _⟩⟩
  case pass =>
    rintro a' w0 ⟨lo, hi, c, r, u10, u11, u12, u13, u14, u15, u16, u17, u18, u19, u20, u21, u22, u23, u24, u25, u26, u27, u28, u29, u30, u31, u32, u33, u34, u35, u36, u37, u38, u39, u40, u41, u42, u43, u44, u45, u46, u47, u48, u49, u50, u51, u52, rfl, HA, h1, h2, HB⟩
    clear HC
    by_cases hlo : hi ≤ lo
    · go_wp2
      simp only [Exit.jump]
      go_ret2
      obtain ⟨k, hk, he⟩ := HA.out
      rw [half_done hlo hk] at he
      rw [← he]
      exact ⟨rfl, HB.out⟩
    · have hlt : lo < hi := by omega
      obtain ⟨m, hm⟩ : ∃ m, m = lo + (hi - lo) / 2 := ⟨_, rfl⟩
      have em : (lo : Int) + ((hi : Int) - (lo : Int)) / 2 = (m : Int) := by omega
      have HM := Aside0.mk hm
      have EM := Aside0.mk em
      have b1 : lo ≤ m := by omega
      have b2 : m < hi := by omega
      clear hm em hlo
      have HS2 := Aside0.mk (SlAt.below HS.out HB.out)
      have HT2 := Aside0.mk (Kd.C_below HT.out HB.out)
      go_wp2_with fail
      rw [EM.out]
      refine (snext_any HS2.out HT2.out (m : Int)).mono ?_
      clear HS2 HT2
      rintro e w1 ⟨rfl, hw⟩
      replace HB := Aside0.mk (below_step HB.out hw.below)
      clear hw
      have HN := Aside0.mk (next_cases f n m (by omega))
      have EN := Aside0.mk (show nextI f n ((lo + (hi - lo) / 2 : Nat) : Int) = nextI f n (m : Int) by rw [HM.out])
      generalize nextI f n (m : Int) = p1 at *
      by_cases hp : p1 < 0 ∨ (hi : Int) ≤ p1
      · have HP := Aside0.mk hp
        by_cases hp0 : p1 < 0
        all_goals
          try (have hp1 : (hi : Int) ≤ p1 := by omega)
          clear hp
          go_wp2
          go_step3
          refine ⟨rfl, ⟨lo, m, c, r, _, _, _, _, _, _, _, _, _, _, _, _, _, _, _, _, _, _, _, _, _, _, _, _, _, _, _, _, _, _, _, _, _, _, _, _, _, _, _, _, _, _, _, rfl, ⟨?_⟩, by omega, by omega, HB⟩, ?_⟩
          · obtain ⟨k, hk, he⟩ := HA.out
            obtain ⟨k, rfl⟩ : ∃ j, k = j + 1 := ⟨k - 1, by omega⟩
            rw [half_none hlt (by omega) EN.out HP.out, ← HM.out] at he
            exact ⟨k, by omega, he⟩
          · show (intOf (.int .i64 (m : Int))).toNat - (intOf (.int .i64 (lo : Int))).toNat < (intOf (.int .i64 (hi : Int))).toNat - (intOf (.int .i64 (lo : Int))).toNat
            simp only [intOf, Int.toNat_natCast]
            omega
      · obtain ⟨t, rfl⟩ := Int.eq_ofNat_of_zero_le (show 0 ≤ p1 by omega)
        have ht : t < hi := by omega
        have ht2 : ¬ (t : Int) < 0 := by omega
        have ht3 : ¬ (hi : Int) ≤ (t : Int) := by omega
        have hf : m ≤ t ∧ f t = true := by
          rcases HN.out with ⟨e, _⟩ | ⟨t', e, a1, _, a3, _⟩
          · omega
          · obtain rfl : t = t' := by omega
            exact ⟨a1, a3⟩
        obtain ⟨hmt, hft⟩ := hf
        clear hp HN
        have HA2 := Aside0.mk (at_on (SlAt.below HS.out HB.out) (show t < n by omega) hft)
        clear hft
        generalize hx : xs.getD t 0 = x at *
        have HX := Aside0.mk hx
        clear hx
        go_wp2_with fail
        refine HA2.out.mono ?_
        rintro e w2 ⟨rfl, rfl⟩
        clear HA2
        go_wp2_with fail
        refine (HQ.out x _ (blk_below HK.out HB.out)).mono ?_
        rintro e w2 ⟨rfl, hw⟩
        replace HB := Aside0.mk (below_step HB.out hw.below)
        clear hw
        cases hqx : q x
        · have HQX := Aside0.mk hqx
          clear hqx
          go_wp2
          rw [show (c : Int) + 1 = ((c + 1 : Nat) : Int) by omega]
          go_step3
          refine ⟨rfl, ⟨lo, m, c + 1, t, _, _, _, _, _, _, _, _, _, _, _, _, _, _, _, _, _, _, _, _, _, _, _, _, _, _, _, _, _, _, _, _, _, _, _, _, _, _, _, _, _, _, _, rfl, ⟨?_⟩, by omega, by omega, HB⟩, ?_⟩
          · obtain ⟨k, hk, he⟩ := HA.out
            obtain ⟨k, rfl⟩ : ∃ j, k = j + 1 := ⟨k - 1, by omega⟩
            rw [half_no hlt (by omega) EN.out ht (by rw [HX.out]; exact HQX.out), ← HM.out] at he
            exact ⟨k, by omega, he⟩
          · show (intOf (.int .i64 (m : Int))).toNat - (intOf (.int .i64 (lo : Int))).toNat < (intOf (.int .i64 (hi : Int))).toNat - (intOf (.int .i64 (lo : Int))).toNat
            simp only [intOf, Int.toNat_natCast]
            omega
        · have HQX := Aside0.mk hqx
          clear hqx
          go_wp2
          rw [show (c : Int) + 1 = ((c + 1 : Nat) : Int) by omega, show (t : Int) + 1 = ((t + 1 : Nat) : Int) by omega]
          go_step3
          refine ⟨rfl, ⟨t + 1, hi, c + 1, r, _, _, _, _, _, _, _, _, _, _, _, _, _, _, _, _, _, _, _, _, _, _, _, _, _, _, _, _, _, _, _, _, _, _, _, _, _, _, _, _, _, _, _, rfl, ⟨?_⟩, by omega, by omega, HB⟩, ?_⟩
          · obtain ⟨k, hk, he⟩ := HA.out
            obtain ⟨k, rfl⟩ : ∃ j, k = j + 1 := ⟨k - 1, by omega⟩
            rw [half_yes hlt (by omega) EN.out ht (by rw [HX.out]; exact HQX.out)] at he
            exact ⟨k, by omega, he⟩
          · show (intOf (.int .i64 (hi : Int))).toNat - (intOf (.int .i64 ((t + 1 : Nat) : Int))).toNat < (intOf (.int .i64 (hi : Int))).toNat - (intOf (.int .i64 (lo : Int))).toNat
            simp only [intOf, Int.toNat_natCast]
            omega
set_option maxHeartbeats 4000000 in
set_option maxRecDepth 100000 in
theorem search_le {w : World} {p sb ob wb n : Nat} {f : Nat → Bool} {xs : List Int} {vs : List Nat} (h : SlAt w p sb ob wb n f xs vs) (hT : Tb w) {kb : Nat} {key : Int} {q : Int → Bool} (hq : Tells 65 kb key q) (hk : w.heap[kb]? = some (.cells #[.int .i64 key] 3 (0, 0))) :
    Calls Tryd.prog 63 #[.pointer (some ⟨p, 0, none⟩), .func (.func 65) #[] #[.pointer (some ⟨kb, 0, none⟩)]] w fun e w' => e = .returned (.tuple #[.int .i64 (srch f xs n q).1, .int .i64 (srch f xs n q).2]) ∧ Below w.heap.size w w' := by
  have HS := Aside0.mk h
  have HT := Aside0.mk hT
  have HK := Aside0.mk hk
  have HQ := Aside0.mk hq
  have hn := h.bits.high
  have HC := Aside0.mk (cap_any h)
  clear h hT hk hq
  go_enter Tryd.func63, Tryd.ntmps63
  go_wp2
  refine wp_scope_back 0 (fun a' w' => ∃ (lo hi c : Nat) (r : Int) (u10 u11 u12 u13 u14 u15 u16 u17 u18 u19 u20 u21 u22 u23 u24 u25 u26 u27 u28 u29 u30 u31 u32 u33 u34 u35 u36 u37 u38 u39 u40 u41 u42 u43 u44 u45 u46 u47 u48 u49 u50 u51 u52 : Value), a' = { tmps := #[.pointer (some ⟨p, 0, none⟩), .func (.func 65) #[] #[.pointer (some ⟨kb, 0, none⟩)], undef, undef, .int .i64 0, .int .i64 0, .int .i64 lo, .int .i64 hi, .int .i64 r, .int .i64 c, u10, u11, u12, u13, u14, u15, u16, u17, u18, u19, u20, u21, u22, u23, u24, u25, u26, u27, u28, u29, u30, u31, u32, u33, u34, u35, u36, u37, u38, u39, u40, u41, u42, u43, u44, u45, u46, u47, u48, u49, u50, u51, u52], defers := [] } ∧ Aside0 (∃ k, hi - lo < k ∧ half f xs n q k lo hi r c = srch f xs n q) ∧ hi ≤ n ∧ c + (hi - lo) ≤ n ∧ Aside0 (Below w.heap.size w w'))
    (fun a' _ => (intOf (a'.tmps.getD 7 undef)).toNat - (intOf (a'.tmps.getD 6 undef)).toNat) rfl ?pass ?first
  case first =>
    intro hlabel
    have HL := Aside0.mk hlabel
    clear hlabel
    go_wp2_with fail
    refine HC.out.mono ?_
    rintro e w1 ⟨rfl, rfl⟩
    go_wp2
    go_step3
    simp only [Exit.then]
    apply_assumption
    exact HL.out _ _ ⟨0, n, 0, -1, _, _, _, _, _, _, _, _, _, _, _, _, _, _, _, _, _, _, _, _, _, _, _, _, _, _, _, _, _, _, _, _, _, _, _, _, _, _, _, _, _, _, _, rfl, ⟨n + 1, by omega, rfl⟩, by omega, by omega, ⟨Below.refl _ _⟩⟩
  case pass =>
    rintro a' w0 ⟨lo, hi, c, r, u10, u11, u12, u13, u14, u15, u16, u17, u18, u19, u20, u21, u22, u23, u24, u25, u26, u27, u28, u29, u30, u31, u32, u33, u34, u35, u36, u37, u38, u39, u40, u41, u42, u43, u44, u45, u46, u47, u48, u49, u50, u51, u52, rfl, HA, h1, h2, HB⟩
    clear HC
    by_cases hlo : hi ≤ lo
    · go_wp2
      simp only [Exit.jump]
      go_ret2
      obtain ⟨k, hk, he⟩ := HA.out
      rw [half_done hlo hk] at he
      rw [← he]
      exact ⟨rfl, HB.out⟩
    · have hlt : lo < hi := by omega
      obtain ⟨m, hm⟩ : ∃ m, m = lo + (hi - lo) / 2 := ⟨_, rfl⟩
      have em : (lo : Int) + ((hi : Int) - (lo : Int)) / 2 = (m : Int) := by omega
      have HM := Aside0.mk hm
      have EM := Aside0.mk em
      have b1 : lo ≤ m := by omega
      have b2 : m < hi := by omega
      clear hm em hlo
      have HS2 := Aside0.mk (SlAt.below HS.out HB.out)
      have HT2 := Aside0.mk (Kd.C_below HT.out HB.out)
      go_wp2_with fail
      rw [EM.out]
      refine (snext_any HS2.out HT2.out (m : Int)).mono ?_
      clear HS2 HT2
      rintro e w1 ⟨rfl, hw⟩
      replace HB := Aside0.mk (below_step HB.out hw.below)
      clear hw
      have HN := Aside0.mk (next_cases f n m (by omega))
      have EN := Aside0.mk (show nextI f n ((lo + (hi - lo) / 2 : Nat) : Int) = nextI f n (m : Int) by rw [HM.out])
      generalize nextI f n (m : Int) = p1 at *
      by_cases hp : p1 < 0 ∨ (hi : Int) ≤ p1
      · have HP := Aside0.mk hp
        by_cases hp0 : p1 < 0
        all_goals
          try (have hp1 : (hi : Int) ≤ p1 := by omega)
          clear hp
          go_wp2
          go_step3
          refine ⟨rfl, ⟨lo, m, c, r, _, _, _, _, _, _, _, _, _, _, _, _, _, _, _, _, _, _, _, _, _, _, _, _, _, _, _, _, _, _, _, _, _, _, _, _, _, _, _, _, _, _, _, rfl, ⟨?_⟩, by omega, by omega, HB⟩, ?_⟩
          · obtain ⟨k, hk, he⟩ := HA.out
            obtain ⟨k, rfl⟩ : ∃ j, k = j + 1 := ⟨k - 1, by omega⟩
            rw [half_none hlt (by omega) EN.out HP.out, ← HM.out] at he
            exact ⟨k, by omega, he⟩
          · show (intOf (.int .i64 (m : Int))).toNat - (intOf (.int .i64 (lo : Int))).toNat < (intOf (.int .i64 (hi : Int))).toNat - (intOf (.int .i64 (lo : Int))).toNat
            simp only [intOf, Int.toNat_natCast]
            omega
      · obtain ⟨t, rfl⟩ := Int.eq_ofNat_of_zero_le (show 0 ≤ p1 by omega)
        have ht : t < hi := by omega
        have ht2 : ¬ (t : Int) < 0 := by omega
        have ht3 : ¬ (hi : Int) ≤ (t : Int) := by omega
        have hf : m ≤ t ∧ f t = true := by
          rcases HN.out with ⟨e, _⟩ | ⟨t', e, a1, _, a3, _⟩
          · omega
          · obtain rfl : t = t' := by omega
            exact ⟨a1, a3⟩
        obtain ⟨hmt, hft⟩ := hf
        clear hp HN
        have HA2 := Aside0.mk (at_on (SlAt.below HS.out HB.out) (show t < n by omega) hft)
        clear hft
        generalize hx : xs.getD t 0 = x at *
        have HX := Aside0.mk hx
        clear hx
        go_wp2_with fail
        refine HA2.out.mono ?_
        rintro e w2 ⟨rfl, rfl⟩
        clear HA2
        go_wp2_with fail
        refine (HQ.out x _ (blk_below HK.out HB.out)).mono ?_
        rintro e w2 ⟨rfl, hw⟩
        replace HB := Aside0.mk (below_step HB.out hw.below)
        clear hw
        cases hqx : q x
        · have HQX := Aside0.mk hqx
          clear hqx
          go_wp2
          rw [show (c : Int) + 1 = ((c + 1 : Nat) : Int) by omega]
          go_step3
          refine ⟨rfl, ⟨lo, m, c + 1, t, _, _, _, _, _, _, _, _, _, _, _, _, _, _, _, _, _, _, _, _, _, _, _, _, _, _, _, _, _, _, _, _, _, _, _, _, _, _, _, _, _, _, _, rfl, ⟨?_⟩, by omega, by omega, HB⟩, ?_⟩
          · obtain ⟨k, hk, he⟩ := HA.out
            obtain ⟨k, rfl⟩ : ∃ j, k = j + 1 := ⟨k - 1, by omega⟩
            rw [half_no hlt (by omega) EN.out ht (by rw [HX.out]; exact HQX.out), ← HM.out] at he
            exact ⟨k, by omega, he⟩
          · show (intOf (.int .i64 (m : Int))).toNat - (intOf (.int .i64 (lo : Int))).toNat < (intOf (.int .i64 (hi : Int))).toNat - (intOf (.int .i64 (lo : Int))).toNat
            simp only [intOf, Int.toNat_natCast]
            omega
        · have HQX := Aside0.mk hqx
          clear hqx
          go_wp2
          rw [show (c : Int) + 1 = ((c + 1 : Nat) : Int) by omega, show (t : Int) + 1 = ((t + 1 : Nat) : Int) by omega]
          go_step3
          refine ⟨rfl, ⟨t + 1, hi, c + 1, r, _, _, _, _, _, _, _, _, _, _, _, _, _, _, _, _, _, _, _, _, _, _, _, _, _, _, _, _, _, _, _, _, _, _, _, _, _, _, _, _, _, _, _, rfl, ⟨?_⟩, by omega, by omega, HB⟩, ?_⟩
          · obtain ⟨k, hk, he⟩ := HA.out
            obtain ⟨k, rfl⟩ : ∃ j, k = j + 1 := ⟨k - 1, by omega⟩
            rw [half_yes hlt (by omega) EN.out ht (by rw [HX.out]; exact HQX.out)] at he
            exact ⟨k, by omega, he⟩
          · show (intOf (.int .i64 (hi : Int))).toNat - (intOf (.int .i64 ((t + 1 : Nat) : Int))).toNat < (intOf (.int .i64 (hi : Int))).toNat - (intOf (.int .i64 (lo : Int))).toNat
            simp only [intOf, Int.toNat_natCast]
            omega
section
variable {w : World} {p sb ob wb n : Nat} {f : Nat → Bool} {xs : List Int} {vs : List Nat}
theorem lower_any (h : SlAt w p sb ob wb n f xs vs) (hT : Tb w) (key : Int) : Calls Tryd.prog 35 #[.pointer (some ⟨p, 0, none⟩), .int .i64 key] w fun e w' => e = .returned (.tuple #[.int .i64 (srch f xs n (lt_ key)).1, .int .i64 (srch f xs n (lt_ key)).2]) ∧ Below w.heap.size w w' := by
  have hb := below_alloc (Below.refl w.heap.size w) (.cells #[.int .i64 key] 3)
  have HB := Aside0.mk hb
  have C := Aside0.mk (search_lt (h.below hb) (Kd.C_below hT hb) (tells_lt w.heap.size key) (blk_new w (.cells #[.int .i64 key] 3)))
  clear h hT hb
  go_enter Tryd.func35, Tryd.ntmps35
  go_wp2_with fail
  refine C.out.mono ?_
  rintro e w1 ⟨rfl, hw⟩
  have HW := Aside0.mk hw
  clear hw
  go_wp2
  go_ret2
  exact ⟨rfl, below_step HB.out HW.out⟩
theorem upper_any (h : SlAt w p sb ob wb n f xs vs) (hT : Tb w) (key : Int) : Calls Tryd.prog 36 #[.pointer (some ⟨p, 0, none⟩), .int .i64 key] w fun e w' => e = .returned (.tuple #[.int .i64 (srch f xs n (le_ key)).1, .int .i64 (srch f xs n (le_ key)).2]) ∧ Below w.heap.size w w' := by
  have hb := below_alloc (Below.refl w.heap.size w) (.cells #[.int .i64 key] 3)
  have HB := Aside0.mk hb
  have C := Aside0.mk (search_le (h.below hb) (Kd.C_below hT hb) (tells_le w.heap.size key) (blk_new w (.cells #[.int .i64 key] 3)))
  clear h hT hb
  go_enter Tryd.func36, Tryd.ntmps36
  go_wp2_with fail
  refine C.out.mono ?_
  rintro e w1 ⟨rfl, hw⟩
  have HW := Aside0.mk hw
  clear hw
  go_wp2
  go_ret2
  exact ⟨rfl, below_step HB.out HW.out⟩
/-- The last one ahead; the slot of the key itself. -/
def befR (f : Nat → Bool) (xs : List Int) (n : Nat) (key : Int) : Int × Nat := (prevI f n ((if (srch f xs n (lt_ key)).1 < 0 then (n : Int) else (srch f xs n (lt_ key)).1) - 1), (srch f xs n (lt_ key)).2)
def exaR (f : Nat → Bool) (xs : List Int) (n : Nat) (key : Int) : Int × Nat := if (srch f xs n (lt_ key)).1 < 0 then (-1, (srch f xs n (lt_ key)).2) else (if xs.getD (srch f xs n (lt_ key)).1.toNat 0 = key then (srch f xs n (lt_ key)).1 else -1, (srch f xs n (lt_ key)).2 + 1)
theorem before_any (h : SlAt w p sb ob wb n f xs vs) (hT : Tb w) (key : Int) : Calls Tryd.prog 37 #[.pointer (some ⟨p, 0, none⟩), .int .i64 key] w fun e w' => e = .returned (.tuple #[.int .i64 (befR f xs n key).1, .int .i64 (befR f xs n key).2]) ∧ Below w.heap.size w w' := by
  have HS := Aside0.mk h
  have C := Aside0.mk (lower_any h hT key)
  have hat := srch_at f xs n (lt_ key)
  have ER := Aside0.mk (show befR f xs n key = (prevI f n ((if (srch f xs n (lt_ key)).1 < 0 then (n : Int) else (srch f xs n (lt_ key)).1) - 1), (srch f xs n (lt_ key)).2) from rfl)
  have hn := h.bits.high
  generalize srch f xs n (lt_ key) = r at *
  obtain ⟨r1, r2⟩ := r
  clear h hT
  go_enter Tryd.func37, Tryd.ntmps37
  go_wp2_with fail
  refine C.out.mono ?_
  rintro e w1 ⟨rfl, hw⟩
  have HB := Aside0.mk hw
  clear hw C
  rcases hat with hat | ⟨t, hat, ht, hf⟩
  · have e1 : r1 = -1 := hat
    subst e1
    have ER2 : Aside0 (befR f xs n key = (prevI f n ((n : Int) - 1), r2)) := ⟨ER.out.trans (by simp)⟩
    clear hat ER
    have C2 := Aside0.mk (cap_any (SlAt.below HS.out HB.out))
    go_wp2_with fail
    refine C2.out.mono ?_
    rintro e w2 ⟨rfl, rfl⟩
    clear C2
    have C3 := Aside0.mk (sprev_any (SlAt.below HS.out HB.out) ((n : Int) - 1))
    go_wp2_with fail
    refine C3.out.mono ?_
    rintro e w2 ⟨rfl, hw⟩
    have HW := Aside0.mk hw
    clear hw C3
    go_wp2
    go_ret2
    rw [ER2.out]
    exact ⟨rfl, below_step HB.out HW.out.below⟩
  · have e1 : r1 = (t : Int) := hat
    subst e1
    have ER2 : Aside0 (befR f xs n key = (prevI f n ((t : Int) - 1), r2)) := ⟨ER.out.trans (by simp [show ¬ (t : Int) < 0 by omega])⟩
    clear hat ER hf
    have C3 := Aside0.mk (sprev_any (SlAt.below HS.out HB.out) ((t : Int) - 1))
    go_wp2_with fail
    refine C3.out.mono ?_
    rintro e w2 ⟨rfl, hw⟩
    have HW := Aside0.mk hw
    clear hw C3
    go_wp2
    go_ret2
    rw [ER2.out]
    exact ⟨rfl, below_step HB.out HW.out.below⟩
theorem exact_any (h : SlAt w p sb ob wb n f xs vs) (hT : Tb w) (key : Int) : Calls Tryd.prog 38 #[.pointer (some ⟨p, 0, none⟩), .int .i64 key] w fun e w' => e = .returned (.tuple #[.int .i64 (exaR f xs n key).1, .int .i64 (exaR f xs n key).2]) ∧ Below w.heap.size w w' := by
  have HS := Aside0.mk h
  have C := Aside0.mk (lower_any h hT key)
  have hat := srch_at f xs n (lt_ key)
  have hle := srch_le f xs n (lt_ key)
  have ER := Aside0.mk (show exaR f xs n key = if (srch f xs n (lt_ key)).1 < 0 then (-1, (srch f xs n (lt_ key)).2) else (if xs.getD (srch f xs n (lt_ key)).1.toNat 0 = key then (srch f xs n (lt_ key)).1 else -1, (srch f xs n (lt_ key)).2 + 1) from rfl)
  have hn := h.bits.high
  generalize srch f xs n (lt_ key) = r at *
  obtain ⟨r1, r2⟩ := r
  have hle2 : r2 ≤ n := hle
  clear h hT hle
  go_enter Tryd.func38, Tryd.ntmps38
  go_wp2_with fail
  refine C.out.mono ?_
  rintro e w1 ⟨rfl, hw⟩
  have HB := Aside0.mk hw
  clear hw C
  rcases hat with hat | ⟨t, hat, ht, hf⟩
  · have e1 : r1 = -1 := hat
    subst e1
    have ER2 : Aside0 (exaR f xs n key = (-1, r2)) := ⟨ER.out.trans (by simp)⟩
    clear hat ER
    go_wp2
    go_ret2
    rw [ER2.out]
    exact ⟨rfl, HB.out⟩
  · have e1 : r1 = (t : Int) := hat
    subst e1
    have ER2 : Aside0 (exaR f xs n key = (if xs.getD t 0 = key then (t : Int) else -1, r2 + 1)) := ⟨ER.out.trans (by simp [show ¬ (t : Int) < 0 by omega])⟩
    have ht2 : ¬ (t : Int) < 0 := by omega
    have C3 := Aside0.mk (at_on (SlAt.below HS.out HB.out) ht hf)
    clear hat ER hf
    generalize xs.getD t 0 = x at *
    go_wp2_with fail
    refine C3.out.mono ?_
    rintro e w2 ⟨rfl, rfl⟩
    clear C3
    by_cases hx : x = key
    · have g1 : (x != key) = false := by simp [hx]
      have ER3 : Aside0 (exaR f xs n key = ((t : Int), r2 + 1)) := ⟨ER2.out.trans (by rw [if_pos hx])⟩
      clear hx ER2
      go_wp2
      go_ret2
      rw [ER3.out]
      exact ⟨by simp, HB.out⟩
    · have g1 : (x != key) = true := by rw [bne_iff_ne]; exact hx
      have ER3 : Aside0 (exaR f xs n key = (-1, r2 + 1)) := ⟨ER2.out.trans (by rw [if_neg hx])⟩
      clear hx ER2
      go_wp2
      go_ret2
      rw [ER3.out]
      exact ⟨by simp, HB.out⟩
end
end Go.Proofs.YtbjkncgpoengaaaDoor.F2
