/- Walk of the law BfsPlaces: it returns true; whatever the numbers. -/
import Derived.Test.YtmjfnifdgneooaaA12
namespace Go.Proofs.Ytmjfnifdgneooaa.A14
open Go.RowKit Go.Proofs.YtmjfnifdgneooaaW.PrintWords Go.Proofs.YtmjfnifdgneooaaW.PrintLast Go.Proofs.YtmjfnifdgneooaaW.PrintMore B1 A1 B2 B3 B4 B5 A8 A9 A10 A11 A12
set_option linter.unusedVariables false
set_option linter.unusedSimpArgs false
set_option maxHeartbeats 1000000 in
theorem any (n many : Int) (w : World) :
    Calls Try.prog 8 #[.int .i64 n, .int .i64 many] w fun e w' => e = .returned (.bool true) ∧ Below w.heap.size w w' := by
  have HB := Aside0.mk (Below.refl w.heap.size w)
  by_cases h1 : 300 < many
  · by_cases h2 : many ≤ 65536
    · go_enter Try.func8, Try.ntmps8
      go_wp2_with fail
      refine (awake_any _).mono ?_
      rintro e w1 ⟨rfl, hw⟩
      have hb := hw
      clear hw
      replace HB := Aside0.mk (below_step HB.out hb)
      clear hb
      go_wp2
      go_ret
      exact ⟨rfl, HB.out⟩
    · have h3 : 65536 < many := by omega
      have h4 : ¬ many < 1 := by omega
      have hno : ¬ (1 ≤ many ∧ many ≤ 65536 ∧ 0 ≤ n ∧ n < many) := by omega
      have HN := Aside0.mk hno
      clear hno
      go_enter Try.func8, Try.ntmps8
      go_wp2_with fail
      refine (place_no n many _ HN.out).mono ?_
      rintro e w2 ⟨rfl, hw⟩
      have hb := hw
      clear hw
      replace HB := Aside0.mk (below_step HB.out hb)
      clear hb
      go_wp2_with fail
      refine (size_no n many _ HN.out).mono ?_
      rintro e w3 ⟨rfl, hw⟩
      have hb := hw
      clear hw
      replace HB := Aside0.mk (below_step HB.out hb)
      clear hb
      go_wp2_with fail
      refine (awake_any _).mono ?_
      rintro e w4 ⟨rfl, hw⟩
      have hb := hw
      clear hw
      replace HB := Aside0.mk (below_step HB.out hb)
      clear hb
      go_wp2
      go_ret
      exact ⟨rfl, HB.out⟩
  · have h2 : many ≤ 300 := by omega
    by_cases h3 : many < 1
    · have HN : Aside0 (¬ (1 ≤ many ∧ many ≤ 65536 ∧ 0 ≤ n ∧ n < many)) := ⟨by omega⟩
      go_enter Try.func8, Try.ntmps8
      go_wp2_with fail
      refine (place_no n many _ HN.out).mono ?_
      rintro e w5 ⟨rfl, hw⟩
      have hb := hw
      clear hw
      replace HB := Aside0.mk (below_step HB.out hb)
      clear hb
      go_wp2_with fail
      refine (size_no n many _ HN.out).mono ?_
      rintro e w6 ⟨rfl, hw⟩
      have hb := hw
      clear hw
      replace HB := Aside0.mk (below_step HB.out hb)
      clear hb
      go_wp2_with fail
      refine (awake_any _).mono ?_
      rintro e w7 ⟨rfl, hw⟩
      have hb := hw
      clear hw
      replace HB := Aside0.mk (below_step HB.out hb)
      clear hb
      go_wp2
      go_ret
      exact ⟨rfl, HB.out⟩
    · by_cases h4 : n < 0
      · have HN : Aside0 (¬ (1 ≤ many ∧ many ≤ 65536 ∧ 0 ≤ n ∧ n < many)) := ⟨by omega⟩
        go_enter Try.func8, Try.ntmps8
        go_wp2_with fail
        refine (place_no n many _ HN.out).mono ?_
        rintro e w8 ⟨rfl, hw⟩
        have hb := hw
        clear hw
        replace HB := Aside0.mk (below_step HB.out hb)
        clear hb
        go_wp2_with fail
        refine (size_no n many _ HN.out).mono ?_
        rintro e w9 ⟨rfl, hw⟩
        have hb := hw
        clear hw
        replace HB := Aside0.mk (below_step HB.out hb)
        clear hb
        go_wp2_with fail
        refine (awake_any _).mono ?_
        rintro e w10 ⟨rfl, hw⟩
        have hb := hw
        clear hw
        replace HB := Aside0.mk (below_step HB.out hb)
        clear hb
        go_wp2
        go_ret
        exact ⟨rfl, HB.out⟩
      · by_cases h5 : many ≤ n
        · have HN : Aside0 (¬ (1 ≤ many ∧ many ≤ 65536 ∧ 0 ≤ n ∧ n < many)) := ⟨by omega⟩
          go_enter Try.func8, Try.ntmps8
          go_wp2_with fail
          refine (place_no n many _ HN.out).mono ?_
          rintro e w11 ⟨rfl, hw⟩
          have hb := hw
          clear hw
          replace HB := Aside0.mk (below_step HB.out hb)
          clear hb
          go_wp2_with fail
          refine (size_no n many _ HN.out).mono ?_
          rintro e w12 ⟨rfl, hw⟩
          have hb := hw
          clear hw
          replace HB := Aside0.mk (below_step HB.out hb)
          clear hb
          go_wp2_with fail
          refine (awake_any _).mono ?_
          rintro e w13 ⟨rfl, hw⟩
          have hb := hw
          clear hw
          replace HB := Aside0.mk (below_step HB.out hb)
          clear hb
          go_wp2
          go_ret
          exact ⟨rfl, HB.out⟩
        · obtain ⟨n, rfl⟩ := Int.eq_ofNat_of_zero_le (show 0 ≤ n by omega)
          obtain ⟨many, rfl⟩ := Int.eq_ofNat_of_zero_le (show 0 ≤ many by omega)
          have hn : n < many := by omega
          have hm : many ≤ 300 := by omega
          have g1 : ¬ many = 0 := by omega
          clear h1 h2 h3 h4 h5
          have hz := length_zero many
          have P1 := Aside0.mk (place_yes n many · (by omega) hn)
          have hv : ((inOrd many 0).getD n 0 : Int) = rd (nat (inOrd many 0)) n := by
            rw [rdnat _ _ (by omega)]
            simp [List.getD_eq_getElem?_getD, hz, hn]
          have HV := Aside0.mk hv
          clear hv
          generalize (inOrd many 0).getD n 0 = v at P1 HV
          have P2 := Aside0.mk (size_yes n many · (by omega) hn)
          have hcn : cnt many n = (nat (inOrd many n)).length := by rw [nat_length]; rfl
          have HC := Aside0.mk hcn
          have HZ : Aside0 ((nat (inOrd many 0)).length = many) := ⟨by rw [nat_length]; exact hz⟩
          clear hcn hz
          go_enter Try.func8, Try.ntmps8
          go_wp2_with fail
          refine (P1.out _).mono ?_
          rintro e w14 ⟨rfl, hw⟩
          have hb := hw
          clear hw
          replace HB := Aside0.mk (below_step HB.out hb)
          clear hb
          go_wp2_with fail
          refine (P2.out _).mono ?_
          rintro e w15 ⟨rfl, hw⟩
          have hb := hw
          clear hw
          replace HB := Aside0.mk (below_step HB.out hb)
          clear hb
          go_wp2_with fail
          refine (refOrder_any 0 many _ (by omega) (by omega)).mono ?_
          rintro e w4 ⟨A, c, rfl, hl, hC, hb⟩
          replace HB := Aside0.mk (below_step HB.out hb)
          obtain ⟨ad, e, hx⟩ := Kd.at_int hC (n : Int) (by omega) (by rw [HZ.out]; omega)
          cases e
          rw [Int.toNat_natCast, ← HV.out] at hx
          have hnl : n < (nat (inOrd many 0)).length := by rw [HZ.out]; exact hn
          clear hb hC
          generalize (nat (inOrd many 0)).length = len at *
          go_wp2_with fail
          refine (refOrder_any n many _ (by omega) (by omega)).mono ?_
          rintro e w5 ⟨A2, c2, rfl, hl2, hC2, hb⟩
          replace HB := Aside0.mk (below_step HB.out hb)
          clear hb hC2
          rw [HC.out]
          generalize (nat (inOrd many n)).length = len2 at *
          go_wp2_with fail
          refine (awake_any _).mono ?_
          rintro e w16 ⟨rfl, hw⟩
          have hb := hw
          clear hw
          replace HB := Aside0.mk (below_step HB.out hb)
          clear hb
          go_wp2
          go_ret
          exact ⟨rfl, HB.out⟩
theorem law (a : Int) (wa : (Lit.int .i64 a).wf = true) (b : Int) (wb : (Lit.int .i64 b).wf = true) (W : World) : Calls Try.prog 8 #[.int .i64 a, .int .i64 b] W fun e w' => e = .returned (.bool true) ∧ Below W.heap.size W w' := any a b W
end Go.Proofs.Ytmjfnifdgneooaa.A14
