/- Walk of the law BisectSpans: it returns true; whatever the keys and the two numbers. -/
import Derived.Test.YtmjfnifdgneooaaA3
namespace Go.Proofs.Ytmjfnifdgneooaa.A4
open Go.RowKit Go.Proofs.YtmjfnifdgneooaaW.PrintWords Go.Proofs.YtmjfnifdgneooaaW.PrintLast Go.Proofs.YtmjfnifdgneooaaW.PrintMore B1 A1 B2 A2 A3
set_option linter.unusedVariables false
set_option linter.unusedSimpArgs false

theorem w64_of {x : Int} (h : (Lit.int .i64 x).wf = true) : W64 x := by
  simp [Lit.wf, IntKind.min, IntKind.max, IntKind.signed, IntKind.bits] at h
  exact ⟨by omega, by omega⟩
theorem refNear_any (A0 : Option Addr) (c0 : Nat) (l : List Int) (key : Int) (w : World) (hr : Kd.C (Kd.int .i64) w A0 l.length l) (hc : l.length ≤ c0) (hlen : l.length ≤ 1000000)
    (hs : risingB l = true) (hpos : 0 < l.length) (hl : ∀ i, i < l.length → W64 (l.getD i 0)) (hk : W64 key) :
    Calls Try.prog 20 #[.slice A0 l.length c0, .int .i64 key] w fun e w' => e = .returned (.int .i64 (nearN l key)) ∧ Drawn0 w w' := by
  obtain ⟨k, r, hf, r', rfl, hn⟩ := refNear_f l key hpos hlen hl hk
  rw [NearAt.unique (near_spec hs hpos hl hk) hn]
  exact PBisectSpans.punnetref17_Near.calls k A0 c0 l key _ w hr hc hf

set_option maxHeartbeats 1000000 in
theorem spans_any (A0 : Option Addr) (c0 : Nat) (l : List Int) (x y : Int) (w : World) (hr : Kd.C (Kd.int .i64) w A0 l.length l) (hc : l.length ≤ c0) (hlen : l.length ≤ 100000000000000)
    (hl : ∀ i, i < l.length → W64 (l.getD i 0)) (hx : W64 x) :
    Calls Try.prog 4 #[.slice A0 l.length c0, .agg #[.int .i64 x, .int .i64 y]] w fun e w' => e = .returned (.bool true) ∧ Below w.heap.size w w' := by
  have HL := Aside0.mk hl
  have HX := Aside0.mk hx
  clear hl hx
  have HR := Aside0.mk (Kd.C_below hr (below_alloc (Below.refl w.heap.size w) (.cells #[.int .i64 x, .int .i64 y] 31)))
  have HB := Aside0.mk (below_alloc (Below.refl w.heap.size w) (.cells #[.int .i64 x, .int .i64 y] 31))
  have BK := Aside0.mk (blk_new w (.cells #[.int .i64 x, .int .i64 y] 31))
  clear hr
  by_cases h2 : 200 < l.length
  · go_enter Try.func4, Try.ntmps4
    go_wp2_with fail
    refine (awake_any _).mono ?_
    rintro e w1 ⟨rfl, hw⟩
    have hb := hw
    clear hw
    replace HR := Aside0.mk (Kd.C_below HR.out hb)
    replace HB := Aside0.mk (below_step HB.out hb)
    replace BK := Aside0.mk (blk_below BK.out hb)
    replace BK_c0 : (_ : Option Value) = some (.int .i64 x) := (blk_cell BK.out 0).trans rfl
    replace BK_c1 : (_ : Option Value) = some (.int .i64 y) := (blk_cell BK.out 1).trans rfl
    clear hb
    go_wp2
    go_ret
    exact ⟨rfl, HB.out⟩
  · have h3 : l.length ≤ 200 := by omega
    have BK_c0 : (_ : Option Value) = some (.int .i64 x) := (blk_cell BK.out 0).trans rfl
    have BK_c1 : (_ : Option Value) = some (.int .i64 y) := (blk_cell BK.out 1).trans rfl
    cases hb : risingB l with
    | false =>
      have HH := Aside0.mk hb
      clear hb
      go_enter Try.func4, Try.ntmps4
      go_wp2_with fail
      refine (span_no _ _ l x y _ HR.out hc (by omega) HH.out).mono ?_
      rintro e w2 ⟨rfl, hw⟩
      have hb := hw.below
      clear hw
      replace HR := Aside0.mk (Kd.C_below HR.out hb)
      replace HB := Aside0.mk (below_step HB.out hb)
      replace BK := Aside0.mk (blk_below BK.out hb)
      replace BK_c0 : (_ : Option Value) = some (.int .i64 x) := (blk_cell BK.out 0).trans rfl
      replace BK_c1 : (_ : Option Value) = some (.int .i64 y) := (blk_cell BK.out 1).trans rfl
      clear hb
      go_wp2_with fail
      refine (near_no _ _ l x _ HR.out hc (by omega) HH.out).mono ?_
      rintro e w3 ⟨rfl, hw⟩
      have hb := hw.below
      clear hw
      replace HR := Aside0.mk (Kd.C_below HR.out hb)
      replace HB := Aside0.mk (below_step HB.out hb)
      replace BK := Aside0.mk (blk_below BK.out hb)
      replace BK_c0 : (_ : Option Value) = some (.int .i64 x) := (blk_cell BK.out 0).trans rfl
      replace BK_c1 : (_ : Option Value) = some (.int .i64 y) := (blk_cell BK.out 1).trans rfl
      clear hb
      go_wp2_with fail
      refine (refRising_any _ _ l false HH.out _ HR.out hc (by omega)).mono ?_
      rintro e w4 ⟨rfl, hw⟩
      have hb := hw.below
      clear hw
      replace HR := Aside0.mk (Kd.C_below HR.out hb)
      replace HB := Aside0.mk (below_step HB.out hb)
      replace BK := Aside0.mk (blk_below BK.out hb)
      replace BK_c0 : (_ : Option Value) = some (.int .i64 x) := (blk_cell BK.out 0).trans rfl
      replace BK_c1 : (_ : Option Value) = some (.int .i64 y) := (blk_cell BK.out 1).trans rfl
      clear hb
      go_wp2_with fail
      refine (awake_any _).mono ?_
      rintro e w5 ⟨rfl, hw⟩
      have hb := hw
      clear hw
      replace HR := Aside0.mk (Kd.C_below HR.out hb)
      replace HB := Aside0.mk (below_step HB.out hb)
      replace BK := Aside0.mk (blk_below BK.out hb)
      replace BK_c0 : (_ : Option Value) = some (.int .i64 x) := (blk_cell BK.out 0).trans rfl
      replace BK_c1 : (_ : Option Value) = some (.int .i64 y) := (blk_cell BK.out 1).trans rfl
      clear hb
      go_wp2
      go_ret
      exact ⟨rfl, HB.out⟩
    | true =>
      have HH := Aside0.mk hb
      clear hb
      have e1 := rankN_less x HH.out
      have e2 := rankN_less y HH.out
      cases l with
      | nil =>
        by_cases hxy : y < x
        · go_enter Try.func4, Try.ntmps4
          go_wp2_with fail
          refine (span_arg _ _ [] x y _ HR.out hc (by omega) HH.out hxy).mono ?_
          rintro e w6 ⟨rfl, hw⟩
          have hb := hw.below
          clear hw
          replace HR := Aside0.mk (Kd.C_below HR.out hb)
          replace HB := Aside0.mk (below_step HB.out hb)
          replace BK := Aside0.mk (blk_below BK.out hb)
          replace BK_c0 : (_ : Option Value) = some (.int .i64 x) := (blk_cell BK.out 0).trans rfl
          replace BK_c1 : (_ : Option Value) = some (.int .i64 y) := (blk_cell BK.out 1).trans rfl
          clear hb
          go_wp2_with fail
          refine (near_none _ _ x _ HR.out).mono ?_
          rintro e w7 ⟨rfl, hw⟩
          have hb := hw.below
          clear hw
          replace HR := Aside0.mk (Kd.C_below HR.out hb)
          replace HB := Aside0.mk (below_step HB.out hb)
          replace BK := Aside0.mk (blk_below BK.out hb)
          replace BK_c0 : (_ : Option Value) = some (.int .i64 x) := (blk_cell BK.out 0).trans rfl
          replace BK_c1 : (_ : Option Value) = some (.int .i64 y) := (blk_cell BK.out 1).trans rfl
          clear hb
          go_wp2_with fail
          refine (refRising_any _ _ [] true HH.out _ HR.out hc (by simp)).mono ?_
          rintro e w8 ⟨rfl, hw⟩
          have hb := hw.below
          clear hw
          replace HR := Aside0.mk (Kd.C_below HR.out hb)
          replace HB := Aside0.mk (below_step HB.out hb)
          replace BK := Aside0.mk (blk_below BK.out hb)
          replace BK_c0 : (_ : Option Value) = some (.int .i64 x) := (blk_cell BK.out 0).trans rfl
          replace BK_c1 : (_ : Option Value) = some (.int .i64 y) := (blk_cell BK.out 1).trans rfl
          clear hb
          go_wp2_with fail
          refine (awake_any _).mono ?_
          rintro e w9 ⟨rfl, hw⟩
          have hb := hw
          clear hw
          replace HR := Aside0.mk (Kd.C_below HR.out hb)
          replace HB := Aside0.mk (below_step HB.out hb)
          replace BK := Aside0.mk (blk_below BK.out hb)
          replace BK_c0 : (_ : Option Value) = some (.int .i64 x) := (blk_cell BK.out 0).trans rfl
          replace BK_c1 : (_ : Option Value) = some (.int .i64 y) := (blk_cell BK.out 1).trans rfl
          clear hb
          go_wp2
          go_ret
          exact ⟨rfl, HB.out⟩
        · have hxy' : x ≤ y := by omega
          go_enter Try.func4, Try.ntmps4
          go_wp2_with fail
          refine (span_yes _ _ [] x y _ HR.out hc (by omega) HH.out hxy').mono ?_
          rintro e w10 ⟨rfl, hw⟩
          have hb := hw.below
          clear hw
          replace HR := Aside0.mk (Kd.C_below HR.out hb)
          replace HB := Aside0.mk (below_step HB.out hb)
          replace BK := Aside0.mk (blk_below BK.out hb)
          replace BK_c0 : (_ : Option Value) = some (.int .i64 x) := (blk_cell BK.out 0).trans rfl
          replace BK_c1 : (_ : Option Value) = some (.int .i64 y) := (blk_cell BK.out 1).trans rfl
          clear hb
          go_wp2_with fail
          refine (near_none _ _ x _ HR.out).mono ?_
          rintro e w11 ⟨rfl, hw⟩
          have hb := hw.below
          clear hw
          replace HR := Aside0.mk (Kd.C_below HR.out hb)
          replace HB := Aside0.mk (below_step HB.out hb)
          replace BK := Aside0.mk (blk_below BK.out hb)
          replace BK_c0 : (_ : Option Value) = some (.int .i64 x) := (blk_cell BK.out 0).trans rfl
          replace BK_c1 : (_ : Option Value) = some (.int .i64 y) := (blk_cell BK.out 1).trans rfl
          clear hb
          go_wp2_with fail
          refine (refRising_any _ _ [] true HH.out _ HR.out hc (by simp)).mono ?_
          rintro e w12 ⟨rfl, hw⟩
          have hb := hw.below
          clear hw
          replace HR := Aside0.mk (Kd.C_below HR.out hb)
          replace HB := Aside0.mk (below_step HB.out hb)
          replace BK := Aside0.mk (blk_below BK.out hb)
          replace BK_c0 : (_ : Option Value) = some (.int .i64 x) := (blk_cell BK.out 0).trans rfl
          replace BK_c1 : (_ : Option Value) = some (.int .i64 y) := (blk_cell BK.out 1).trans rfl
          clear hb
          go_wp2_with fail
          refine (refRank_any _ _ [] x _ HR.out hc (by simp)).mono ?_
          rintro e w13 ⟨rfl, hw⟩
          have hb := hw.below
          clear hw
          replace HR := Aside0.mk (Kd.C_below HR.out hb)
          replace HB := Aside0.mk (below_step HB.out hb)
          replace BK := Aside0.mk (blk_below BK.out hb)
          replace BK_c0 : (_ : Option Value) = some (.int .i64 x) := (blk_cell BK.out 0).trans rfl
          replace BK_c1 : (_ : Option Value) = some (.int .i64 y) := (blk_cell BK.out 1).trans rfl
          clear hb
          go_wp2_with fail
          refine (refRank_any _ _ [] y _ HR.out hc (by simp)).mono ?_
          rintro e w14 ⟨rfl, hw⟩
          have hb := hw.below
          clear hw
          replace HR := Aside0.mk (Kd.C_below HR.out hb)
          replace HB := Aside0.mk (below_step HB.out hb)
          replace BK := Aside0.mk (blk_below BK.out hb)
          replace BK_c0 : (_ : Option Value) = some (.int .i64 x) := (blk_cell BK.out 0).trans rfl
          replace BK_c1 : (_ : Option Value) = some (.int .i64 y) := (blk_cell BK.out 1).trans rfl
          clear hb
          go_wp2_with fail
          refine (awake_any _).mono ?_
          rintro e w15 ⟨rfl, hw⟩
          have hb := hw
          clear hw
          replace HR := Aside0.mk (Kd.C_below HR.out hb)
          replace HB := Aside0.mk (below_step HB.out hb)
          replace BK := Aside0.mk (blk_below BK.out hb)
          replace BK_c0 : (_ : Option Value) = some (.int .i64 x) := (blk_cell BK.out 0).trans rfl
          replace BK_c1 : (_ : Option Value) = some (.int .i64 y) := (blk_cell BK.out 1).trans rfl
          clear hb
          go_wp2
          go_ret
          exact ⟨rfl, HB.out⟩
      | cons z r =>
        generalize hlr : z :: r = l at *
        have hp : 0 < l.length := by rw [← hlr]; simp
        clear hlr z r
        have hp0 : ((l.length : Int) == 0) = false := beq_eq_false_iff_ne.2 (by omega)
        by_cases hxy : y < x
        · go_enter Try.func4, Try.ntmps4
          go_wp2_with fail
          refine (span_arg _ _ l x y _ HR.out hc (by omega) HH.out hxy).mono ?_
          rintro e w16 ⟨rfl, hw⟩
          have hb := hw.below
          clear hw
          replace HR := Aside0.mk (Kd.C_below HR.out hb)
          replace HB := Aside0.mk (below_step HB.out hb)
          replace BK := Aside0.mk (blk_below BK.out hb)
          replace BK_c0 : (_ : Option Value) = some (.int .i64 x) := (blk_cell BK.out 0).trans rfl
          replace BK_c1 : (_ : Option Value) = some (.int .i64 y) := (blk_cell BK.out 1).trans rfl
          clear hb
          go_wp2_with fail
          refine (near_yes _ _ l x _ HR.out hc (by omega) HH.out hp).mono ?_
          rintro e w17 ⟨rfl, hw⟩
          have hb := hw.below
          clear hw
          replace HR := Aside0.mk (Kd.C_below HR.out hb)
          replace HB := Aside0.mk (below_step HB.out hb)
          replace BK := Aside0.mk (blk_below BK.out hb)
          replace BK_c0 : (_ : Option Value) = some (.int .i64 x) := (blk_cell BK.out 0).trans rfl
          replace BK_c1 : (_ : Option Value) = some (.int .i64 y) := (blk_cell BK.out 1).trans rfl
          clear hb
          go_wp2_with fail
          refine (refRising_any _ _ l true HH.out _ HR.out hc (by omega)).mono ?_
          rintro e w18 ⟨rfl, hw⟩
          have hb := hw.below
          clear hw
          replace HR := Aside0.mk (Kd.C_below HR.out hb)
          replace HB := Aside0.mk (below_step HB.out hb)
          replace BK := Aside0.mk (blk_below BK.out hb)
          replace BK_c0 : (_ : Option Value) = some (.int .i64 x) := (blk_cell BK.out 0).trans rfl
          replace BK_c1 : (_ : Option Value) = some (.int .i64 y) := (blk_cell BK.out 1).trans rfl
          clear hb
          go_wp2_with fail
          refine (refNear_any _ _ l x _ HR.out hc (by omega) HH.out hp HL.out HX.out).mono ?_
          rintro e w19 ⟨rfl, hw⟩
          have hb := hw.below
          clear hw
          replace HR := Aside0.mk (Kd.C_below HR.out hb)
          replace HB := Aside0.mk (below_step HB.out hb)
          replace BK := Aside0.mk (blk_below BK.out hb)
          replace BK_c0 : (_ : Option Value) = some (.int .i64 x) := (blk_cell BK.out 0).trans rfl
          replace BK_c1 : (_ : Option Value) = some (.int .i64 y) := (blk_cell BK.out 1).trans rfl
          clear hb
          go_wp2_with fail
          refine (awake_any _).mono ?_
          rintro e w20 ⟨rfl, hw⟩
          have hb := hw
          clear hw
          replace HR := Aside0.mk (Kd.C_below HR.out hb)
          replace HB := Aside0.mk (below_step HB.out hb)
          replace BK := Aside0.mk (blk_below BK.out hb)
          replace BK_c0 : (_ : Option Value) = some (.int .i64 x) := (blk_cell BK.out 0).trans rfl
          replace BK_c1 : (_ : Option Value) = some (.int .i64 y) := (blk_cell BK.out 1).trans rfl
          clear hb
          go_wp2
          go_ret
          exact ⟨rfl, HB.out⟩
        · have hxy' : x ≤ y := by omega
          go_enter Try.func4, Try.ntmps4
          go_wp2_with fail
          refine (span_yes _ _ l x y _ HR.out hc (by omega) HH.out hxy').mono ?_
          rintro e w21 ⟨rfl, hw⟩
          have hb := hw.below
          clear hw
          replace HR := Aside0.mk (Kd.C_below HR.out hb)
          replace HB := Aside0.mk (below_step HB.out hb)
          replace BK := Aside0.mk (blk_below BK.out hb)
          replace BK_c0 : (_ : Option Value) = some (.int .i64 x) := (blk_cell BK.out 0).trans rfl
          replace BK_c1 : (_ : Option Value) = some (.int .i64 y) := (blk_cell BK.out 1).trans rfl
          clear hb
          go_wp2_with fail
          refine (near_yes _ _ l x _ HR.out hc (by omega) HH.out hp).mono ?_
          rintro e w22 ⟨rfl, hw⟩
          have hb := hw.below
          clear hw
          replace HR := Aside0.mk (Kd.C_below HR.out hb)
          replace HB := Aside0.mk (below_step HB.out hb)
          replace BK := Aside0.mk (blk_below BK.out hb)
          replace BK_c0 : (_ : Option Value) = some (.int .i64 x) := (blk_cell BK.out 0).trans rfl
          replace BK_c1 : (_ : Option Value) = some (.int .i64 y) := (blk_cell BK.out 1).trans rfl
          clear hb
          go_wp2_with fail
          refine (refRising_any _ _ l true HH.out _ HR.out hc (by omega)).mono ?_
          rintro e w23 ⟨rfl, hw⟩
          have hb := hw.below
          clear hw
          replace HR := Aside0.mk (Kd.C_below HR.out hb)
          replace HB := Aside0.mk (below_step HB.out hb)
          replace BK := Aside0.mk (blk_below BK.out hb)
          replace BK_c0 : (_ : Option Value) = some (.int .i64 x) := (blk_cell BK.out 0).trans rfl
          replace BK_c1 : (_ : Option Value) = some (.int .i64 y) := (blk_cell BK.out 1).trans rfl
          clear hb
          go_wp2_with fail
          refine (refRank_any _ _ l x _ HR.out hc (by omega)).mono ?_
          rintro e w24 ⟨rfl, hw⟩
          have hb := hw.below
          clear hw
          replace HR := Aside0.mk (Kd.C_below HR.out hb)
          replace HB := Aside0.mk (below_step HB.out hb)
          replace BK := Aside0.mk (blk_below BK.out hb)
          replace BK_c0 : (_ : Option Value) = some (.int .i64 x) := (blk_cell BK.out 0).trans rfl
          replace BK_c1 : (_ : Option Value) = some (.int .i64 y) := (blk_cell BK.out 1).trans rfl
          clear hb
          go_wp2_with fail
          refine (refRank_any _ _ l y _ HR.out hc (by omega)).mono ?_
          rintro e w25 ⟨rfl, hw⟩
          have hb := hw.below
          clear hw
          replace HR := Aside0.mk (Kd.C_below HR.out hb)
          replace HB := Aside0.mk (below_step HB.out hb)
          replace BK := Aside0.mk (blk_below BK.out hb)
          replace BK_c0 : (_ : Option Value) = some (.int .i64 x) := (blk_cell BK.out 0).trans rfl
          replace BK_c1 : (_ : Option Value) = some (.int .i64 y) := (blk_cell BK.out 1).trans rfl
          clear hb
          go_wp2_with fail
          refine (refNear_any _ _ l x _ HR.out hc (by omega) HH.out hp HL.out HX.out).mono ?_
          rintro e w26 ⟨rfl, hw⟩
          have hb := hw.below
          clear hw
          replace HR := Aside0.mk (Kd.C_below HR.out hb)
          replace HB := Aside0.mk (below_step HB.out hb)
          replace BK := Aside0.mk (blk_below BK.out hb)
          replace BK_c0 : (_ : Option Value) = some (.int .i64 x) := (blk_cell BK.out 0).trans rfl
          replace BK_c1 : (_ : Option Value) = some (.int .i64 y) := (blk_cell BK.out 1).trans rfl
          clear hb
          go_wp2_with fail
          refine (awake_any _).mono ?_
          rintro e w27 ⟨rfl, hw⟩
          have hb := hw
          clear hw
          replace HR := Aside0.mk (Kd.C_below HR.out hb)
          replace HB := Aside0.mk (below_step HB.out hb)
          replace BK := Aside0.mk (blk_below BK.out hb)
          replace BK_c0 : (_ : Option Value) = some (.int .i64 x) := (blk_cell BK.out 0).trans rfl
          replace BK_c1 : (_ : Option Value) = some (.int .i64 y) := (blk_cell BK.out 1).trans rfl
          clear hb
          go_wp2
          go_ret
          exact ⟨rfl, HB.out⟩
theorem getD_w64 {l : List Int} (w : ∀ x ∈ l, (Lit.int .i64 x).wf = true) : ∀ i, i < l.length → W64 (l.getD i 0) := fun i hi => by
  rw [List.getD_eq_getElem?_getD, List.getElem?_eq_getElem hi]
  exact w64_of (w _ (List.getElem_mem hi))
theorem spansLaw {W0 : World} (A : Option Addr) (c : Nat) (l : List Int) (g : Kd.C (Kd.int .i64) W0 A l.length l) (hc : l.length ≤ c) (y : l.length * 8 ≤ 140737488351232) (w : ∀ x ∈ l, (Lit.int .i64 x).wf = true)
    (a : Int) (wa : (Lit.int .i64 a).wf = true) (b : Int) (wb : (Lit.int .i64 b).wf = true) (W : World) (hW : W = W0 := by rfl) : Calls Try.prog 4 #[.slice A l.length c, .agg #[.int .i64 a, .int .i64 b]] W fun e w' => e = .returned (.bool true) ∧ Below W.heap.size W w' := by
  subst hW
  exact spans_any A c l a b W g hc (by omega) (getD_w64 w) (w64_of wa)
end Go.Proofs.Ytmjfnifdgneooaa.A4
