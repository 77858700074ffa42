/- Walk of the law BfsOf: it returns true; whatever the keys, the layout. -/
import Derived.Test.YtmjfnifdgneooaaA12
import Derived.Deep.RegionWith
namespace Go.Proofs.Ytmjfnifdgneooaa.A15
open Go.RowKit Go.Proofs.YtmjfnifdgneooaaW.PrintWords Go.Proofs.YtmjfnifdgneooaaW.PrintLast Go.Proofs.YtmjfnifdgneooaaW.PrintMore B1 A1 B2 B3 B4 B5 A3 A8 A9 A10 A11 A12
set_option linter.unusedVariables false
set_option linter.unusedSimpArgs false
/-- Two rows with the same numbers. -/
theorem ints_same (n : Nat) (l : List Int) (A0 : Option Addr) (c0 : Nat) (A1 : Option Addr) (c1 : Nat) (w : World) (hr : Kd.C (Kd.int .i64) w A0 n l) (hc : n ≤ c0) (hr1 : Kd.C (Kd.int .i64) w A1 n l) (hc1 : n ≤ c1) (hlen : n ≤ 1000000) :
    Calls Try.prog 31 #[.slice A0 n c0, .slice A1 n c1] w fun e w' => e = .returned (.bool true) ∧ Drawn0 w w' := by
  obtain rfl : l.length = n := hr.1
  exact ints_eq A0 c0 l A1 c1 l w hr hc hr1 hc1 hlen rfl
theorem refOf_len (A0 : Option Addr) (c0 : Nat) (l : List Int) (w : World) (hr : Kd.C (Kd.int .i64) w A0 l.length l) (hc : l.length ≤ c0) (hlen : l.length ≤ 1000000) :
    Calls Try.prog 34 #[.slice A0 l.length c0] w fun e w' => ∃ (A : Option Addr) (c : Nat), e = .returned (.slice A l.length c) ∧ l.length ≤ c ∧ Kd.C (Kd.int .i64) w' A l.length (layOf l) ∧ Below w.heap.size w w' := by
  have h := refOf_any A0 c0 l w hr hc hlen
  rw [layOf_length] at h
  exact h
set_option maxHeartbeats 2000000 in
theorem any (A0 : Option Addr) (c0 : Nat) (l : List Int) (A1 : Option Addr) (c1 : Nat) (m : List Int) (w : World) (hr : Kd.C (Kd.int .i64) w A0 l.length l) (hc : l.length ≤ c0) (hlen : l.length ≤ 100000000000000)
    (hr2 : Kd.C (Kd.int .i64) w A1 m.length m) (hc2 : m.length ≤ c1) (hlen2 : m.length ≤ 100000000000000) :
    Calls Try.prog 10 #[.slice A0 l.length c0, .slice A1 m.length c1] w fun e w' => e = .returned (.bool true) ∧ Below w.heap.size w w' := by
  have HR := Aside0.mk hr
  have HL := Aside0.mk hr2
  have HB := Aside0.mk (Below.refl w.heap.size w)
  clear hr hr2
  by_cases h1 : 200 < l.length
  · go_enter Try.func10, Try.ntmps10
    go_wp2_with fail
    refine (awake_any _).mono ?_
    rintro e w1 ⟨rfl, hw⟩
    have hb := hw
    clear hw
    replace HR := Aside0.mk (Kd.C_below HR.out hb)
    replace HL := Aside0.mk (Kd.C_below HL.out hb)
    replace HB := Aside0.mk (below_step HB.out hb)
    clear hb
    go_wp2
    go_ret
    exact ⟨rfl, HB.out⟩
  by_cases h2 : 200 < m.length
  · go_enter Try.func10, Try.ntmps10
    go_wp2_with fail
    refine (awake_any _).mono ?_
    rintro e w2 ⟨rfl, hw⟩
    have hb := hw
    clear hw
    replace HR := Aside0.mk (Kd.C_below HR.out hb)
    replace HL := Aside0.mk (Kd.C_below HL.out hb)
    replace HB := Aside0.mk (below_step HB.out hb)
    clear hb
    go_wp2
    go_ret
    exact ⟨rfl, HB.out⟩
  have h3 : l.length ≤ 200 := by omega
  have h4 : m.length ≤ 200 := by omega
  have k1 := blk_new w (.cells #[.slice A1 m.length c1] 43)
  have K1 := Aside0.mk k1
  have HRx := Aside0.mk (Kd.C_below HR.out (below_alloc HB.out (.cells #[.slice A1 m.length c1] 43)))
  have HLx := Aside0.mk (Kd.C_below HL.out (below_alloc HB.out (.cells #[.slice A1 m.length c1] 43)))
  have HBx := Aside0.mk (below_alloc HB.out (.cells #[.slice A1 m.length c1] 43))
  clear HR HL HB k1
  have hs := sortedOf_length m
  go_enter Try.func10, Try.ntmps10
  go_wp2_with fail
  refine (sorted_any A1 c1 m _ HLx.out (by omega)).mono ?_
  rintro e w1 ⟨g, hg, rfl, hk, hb⟩
  have HR := Aside0.mk (Kd.C_below HRx.out hb)
  have HL := Aside0.mk (Kd.C_below HLx.out hb)
  have HB := Aside0.mk (below_step HBx.out hb)
  have HS := Aside0.mk (C_of_blk hk (by omega))
  have HSL := Aside0.mk hs
  clear HRx HLx HBx hk hb hs hg
  go_wp2_with fail
  refine (refSorted_any A1 c1 m _ HL.out hc2 (by omega)).mono ?_
  rintro e w2 ⟨A, c, rfl, hcs, hC, hb⟩
  replace HR := Aside0.mk (Kd.C_below HR.out hb)
  replace HL := Aside0.mk (Kd.C_below HL.out hb)
  replace HB := Aside0.mk (below_step HB.out hb)
  replace HS := Aside0.mk (Kd.C_below HS.out hb)
  have HC := Aside0.mk hC
  clear hC hb
  go_wp2_with fail
  rw [← HSL.out]
  refine (ints_eq (some ⟨g, 0, none⟩) (sortedOf m).length (sortedOf m) A c (sortedOf m) _ HS.out (Nat.le_refl _) HC.out hcs (by rw [HSL.out]; omega) rfl).mono ?_
  rintro e w3 ⟨rfl, hw⟩
  replace HR := Aside0.mk (Kd.C_below HR.out hw.below)
  replace HB := Aside0.mk (below_step HB.out hw.below)
  clear HL HS HC hw hcs
  cases hb : risingB l with
  | false =>
    have HH := Aside0.mk hb
    clear hb
    go_wp2_with fail
    refine (of_order _ _ l _ HR.out hc (by omega) HH.out).mono ?_
    rintro e w4 ⟨rfl, hb⟩
    replace HR := Aside0.mk (Kd.C_below HR.out (below_alloc hb (.cells #[.slice none 0 0] 43)))
    replace HB := Aside0.mk (below_step HB.out (below_alloc hb (.cells #[.slice none 0 0] 43)))
    have BK := Aside0.mk (blk_new w4 (.cells #[.slice none 0 0] 43))
    clear hb
    go_wp2_with fail
    refine (refRising_any _ _ l false HH.out _ HR.out hc (by omega)).mono ?_
    rintro e w3 ⟨rfl, hw⟩
    have hb := hw.below
    clear hw
    replace HR := Aside0.mk (Kd.C_below HR.out hb)
    replace HB := Aside0.mk (below_step HB.out hb)
    replace BK := Aside0.mk (blk_below BK.out hb)
    replace BK_c0 : (_ : Option Value) = some (.slice none 0 0) := (blk_cell BK.out 0).trans rfl
    clear hb
    go_wp2_with fail
    refine (awake_any _).mono ?_
    rintro e w4 ⟨rfl, hw⟩
    have hb := hw
    clear hw
    replace HR := Aside0.mk (Kd.C_below HR.out hb)
    replace HB := Aside0.mk (below_step HB.out hb)
    replace BK := Aside0.mk (blk_below BK.out hb)
    replace BK_c0 : (_ : Option Value) = some (.slice none 0 0) := (blk_cell BK.out 0).trans rfl
    clear hb
    go_wp2
    go_ret
    exact ⟨rfl, HB.out⟩
  | true =>
    have HH := Aside0.mk hb
    clear hb
    go_wp2_with fail
    refine (of_yes _ _ l _ HR.out hc (by omega) HH.out).mono ?_
    rintro e w4 ⟨g2, hg2, rfl, hk, hb⟩
    replace HR := Aside0.mk (Kd.C_below HR.out (below_alloc hb (.cells #[.slice (some ⟨g2, 0, none⟩) l.length l.length] 43)))
    replace HB := Aside0.mk (below_step HB.out (below_alloc hb (.cells #[.slice (some ⟨g2, 0, none⟩) l.length l.length] 43)))
    have BK := Aside0.mk (blk_new w4 (.cells #[.slice (some ⟨g2, 0, none⟩) l.length l.length] 43))
    have ll := layOf_length l
    have hy := C_of_blk hk (by omega)
    rw [ll] at hy
    have HY := Aside0.mk (Kd.C_below hy (below_alloc (Below.refl _ _) (.cells #[.slice (some ⟨g2, 0, none⟩) l.length l.length] 43)))
    have LL := Aside0.mk ll
    clear hb hk hg2 ll hy
    go_wp2_with fail
    refine (refRising_any _ _ l true HH.out _ HR.out hc (by omega)).mono ?_
    rintro e w5 ⟨rfl, hw⟩
    have hb := hw.below
    clear hw
    replace HR := Aside0.mk (Kd.C_below HR.out hb)
    replace HB := Aside0.mk (below_step HB.out hb)
    replace BK := Aside0.mk (blk_below BK.out hb)
    replace BK_c0 : (_ : Option Value) = some (.slice (some ⟨g2, 0, none⟩) l.length l.length) := (blk_cell BK.out 0).trans rfl
    replace HY := Aside0.mk (Kd.C_below HY.out hb)
    clear hb
    go_wp2
    go_region_with (first | (go_at_call 34; refine (refOf_len A0 c0 l _ ?_ hc (by omega)).mono ?_; exact Kd.C_drew HR.out; rintro e w6 ⟨A2, c2, rfl, hl2, hC2, hb2⟩; have hd := blk_below (blk_drew BK.out) hb2; have hdc : w6.cell? ⟨w4.heap.size, 0, none⟩ = some (.slice (some ⟨g2, 0, none⟩) l.length l.length) := (blk_cell hd 0).trans rfl; have Z := Aside0.mk (And.intro hl2 (And.intro hC2 (And.intro hb2 hd))); clear hl2 hC2 hb2 hd) | (go_at_call 31; refine (ints_same l.length (layOf l) (some ⟨g2, 0, none⟩) l.length _ _ _ (Kd.C_below (Kd.C_drew HY.out) Z.out.2.2.1) (Nat.le_refl _) Z.out.2.1 Z.out.1 (by omega)).mono ?_; rintro e w7 ⟨rfl, hw7⟩; have Y := Aside0.mk hw7; clear hw7) | (go_at_call 23; refine (awake_any _).mono ?_; rintro e w8 ⟨rfl, hw8⟩; have X := Aside0.mk hw8; clear hw8))
    all_goals
      go_wp2
      go_ret
      exact ⟨rfl, below_step (below_step (below_step (below_drew HB.out) Z.out.2.2.1) Y.out.below) X.out⟩
theorem law {W0 W1 : World} (A : Option Addr) (c : Nat) (l : List Int) (g : Kd.C (Kd.int .i64) W0 A l.length l) (hc : l.length ≤ c) (y : l.length * 8 ≤ 140737488351232) (w : ∀ x ∈ l, (Lit.int .i64 x).wf = true)
    (A1 : Option Addr) (c1 : Nat) (l1 : List Int) (g1 : Kd.C (Kd.int .i64) W1 A1 l1.length l1) (hc1 : l1.length ≤ c1) (y1 : l1.length * 8 ≤ 140737488351232) (w1 : ∀ x ∈ l1, (Lit.int .i64 x).wf = true) (W : World) (hW : W = W0 := by rfl) (hW1 : W = W1 := by rfl) : Calls Try.prog 10 #[.slice A l.length c, .slice A1 l1.length c1] W fun e w' => e = .returned (.bool true) ∧ Below W.heap.size W w' := by
  subst hW
  subst hW1
  exact any A c l A1 c1 l1 W g hc (by omega) g1 hc1 (by omega)
end Go.Proofs.Ytmjfnifdgneooaa.A15
