/- Walk of the law BfsHeap: it returns true; whatever the numbers, the place. -/
import Derived.Test.YtmjfnifdgneooaaA12
import Derived.Test.YtmjfnifdgneooaaA5
import Derived.Test.YtmjfnifdgneooaaB6
namespace Go.Proofs.Ytmjfnifdgneooaa.A16
open Go.RowKit Go.Proofs.YtmjfnifdgneooaaW.PrintWords Go.Proofs.YtmjfnifdgneooaaW.PrintLast Go.Proofs.YtmjfnifdgneooaaW.PrintMore B1 A1 B2 B3 B4 B5 B6 A5 A8 A9 A10 A11 A12
set_option linter.unusedVariables false
set_option linter.unusedSimpArgs false
set_option maxHeartbeats 400000 in
theorem lsize_any (p many : Nat) (w : World) (hm : many ≤ 65536) : Calls Try.prog 30 #[.int .i64 p, .int .i64 many] w fun e w' => e = .returned (.int .i64 (cnt many p)) ∧ Below w.heap.size w w' := by
  by_cases h : p < many
  · go_enter Try.func30, Try.ntmps30
    go_wp2_with fail
    refine (size_yes p many _ hm h).mono ?_
    rintro e w1 ⟨rfl, hb⟩
    have HB := Aside0.mk hb
    clear hb
    go_wp2
    go_ret
    exact ⟨rfl, HB.out⟩
  · rw [cnt_out h]
    go_enter Try.func30, Try.ntmps30
    go_wp2_with fail
    refine (size_no p many _ (by omega)).mono ?_
    rintro e w1 ⟨rfl, hb⟩
    have HB := Aside0.mk hb
    clear hb
    go_wp2
    go_ret
    exact ⟨rfl, HB.out⟩

theorem lsizeI (p : Int) (h0 : 0 ≤ p) (many : Nat) (w : World) (hm : many ≤ 65536) : Calls Try.prog 30 #[.int .i64 p, .int .i64 many] w fun e w' => e = .returned (.int .i64 (cnt many p.toNat)) ∧ Below w.heap.size w w' := by
  obtain ⟨n, rfl⟩ := Int.eq_ofNat_of_zero_le h0
  exact lsize_any n many w hm
theorem mods (x : Int) (n : Nat) (h : 0 < n) (hn : n ≤ 200) : ∃ a : Nat, a < n ∧ Int.tmod (Int.tmod x n + n) n = a ∧ -200 < Int.tmod x n ∧ Int.tmod x n < 200 := by
  have a1 := Int.tmod_lt_of_pos x (show (0 : Int) < n by omega)
  have a2 : -(n : Int) < Int.tmod x n := by
    have := Int.lt_tmod_of_pos x (show (0 : Int) < n by omega)
    exact this
  have h0 : 0 ≤ Int.tmod x n + n := by omega
  have h1 := Int.emod_lt_of_pos (Int.tmod x n + n) (show (0 : Int) < n by omega)
  have h2 := Int.emod_nonneg (Int.tmod x n + n) (show (n : Int) ≠ 0 by omega)
  rw [Int.tmod_eq_emod_of_nonneg h0]
  exact ⟨((Int.tmod x n + n) % n).toNat, by omega, by omega, by omega, by omega⟩

set_option maxHeartbeats 4000000 in
set_option maxRecDepth 100000 in
theorem any (A0 : Option Addr) (c0 : Nat) (l : List Int) (at_ : Int) (w : World) (hr : Kd.C (Kd.int .i64) w A0 l.length l) (hc : l.length ≤ c0) :
    Calls Try.prog 9 #[.slice A0 l.length c0, .int .i64 at_] w fun e w' => e = .returned (.bool true) ∧ Below w.heap.size w w' := by
  have HR := Aside0.mk hr
  clear hr
  go_enter Try.func9, Try.ntmps9
  go_wp2_with fail
  refine (risen_any _ _ l _ HR.out hc).mono ?_
  rintro e w0 ⟨r, hg, A, c, rfl, hcr, hC, hb⟩
  have HG := Aside0.mk hg
  have h200 : r.length ≤ 200 := hg.2.1
  clear HR
  have HB := Aside0.mk hb
  have HR := Aside0.mk hC
  clear hg hC hb
  go_wp2_with fail
  refine (of_yes A c r _ HR.out hcr (by omega) HG.out.1).mono ?_
  rintro e w1 ⟨g, hg2, rfl, hk, hb⟩
  have ll := layOf_length r
  have hy := C_of_blk hk (by omega)
  rw [ll] at hy
  replace HR := Aside0.mk (Kd.C_below HR.out (below_alloc hb (.cells #[.slice (some ⟨g, 0, none⟩) r.length r.length] 43)))
  replace HB := Aside0.mk (below_step HB.out (below_alloc hb (.cells #[.slice (some ⟨g, 0, none⟩) r.length r.length] 43)))
  have BK := Aside0.mk (blk_new w1 (.cells #[.slice (some ⟨g, 0, none⟩) r.length r.length] 43))
  have HY := Aside0.mk (Kd.C_below hy (below_alloc (Below.refl _ _) (.cells #[.slice (some ⟨g, 0, none⟩) r.length r.length] 43)))
  clear hb hk hg2 ll hy
  by_cases h0 : r.length = 0
  · rw [h0] at HB ⊢
    go_wp2_with fail
    refine (size_no at_ 0 _ (by omega)).mono ?_
    rintro e w1 ⟨rfl, hw⟩
    have hb := hw
    clear hw
    replace HB := Aside0.mk (below_step HB.out hb)
    clear hb
    go_wp2_with fail
    refine (awake_any _).mono ?_
    rintro e w2 ⟨rfl, hw⟩
    have hb := hw
    clear hw
    replace HB := Aside0.mk (below_step HB.out hb)
    clear hb
    go_wp2
    go_ret
    exact ⟨rfl, HB.out⟩
  obtain ⟨a, ha, hm1, hm2, hm3⟩ := mods at_ r.length (by omega) h200
  have g0 : ((r.length : Int) == 0) = false := beq_eq_false_iff_ne.2 (by omega)
  have hn0 : 0 < r.length := by omega
  clear h0
  go_wp2_with fail
  have SZ := Aside0.mk (size_yes a r.length · (by omega) ha)
  rw [cnt_in ha] at SZ
  have T1 := Aside0.mk (show (2 * (a : Int) + 1).toNat = 2 * a + 1 by omega)
  have T2 := Aside0.mk (show (2 * (a : Int) + 2).toNat = 2 * a + 2 by omega)
  have b1 := cnt_le r.length (2 * a + 1)
  have b2 := cnt_le r.length (2 * a + 2)
  have L1 := Aside0.mk (lsizeI (2 * (a : Int) + 1) (by omega) r.length · (by omega))
  have L2 := Aside0.mk (lsizeI (2 * (a : Int) + 2) (by omega) r.length · (by omega))
  rw [T1.out] at L1
  rw [T2.out] at L2
  generalize cnt r.length (2 * a + 1) = x at SZ L1 b1
  generalize cnt r.length (2 * a + 2) = y at SZ L2 b2
  rw [show (((x + 1 + y : Nat) : Int)) = 1 + (x : Int) + y by omega] at SZ
  refine (L1.out _).mono ?_
  rintro e w2 ⟨rfl, hb⟩
  replace HR := Aside0.mk (Kd.C_below HR.out hb)
  replace HB := Aside0.mk (below_step HB.out hb)
  replace HY := Aside0.mk (Kd.C_below HY.out hb)
  replace BK := Aside0.mk (blk_below BK.out hb)
  clear hb
  go_wp2_with fail
  refine (L2.out _).mono ?_
  rintro e w3 ⟨rfl, hw⟩
  have hb := hw
  clear hw
  replace HR := Aside0.mk (Kd.C_below HR.out hb)
  replace HB := Aside0.mk (below_step HB.out hb)
  replace HY := Aside0.mk (Kd.C_below HY.out hb)
  replace BK := Aside0.mk (blk_below BK.out hb)
  replace BK_c0 : (_ : Option Value) = some (.slice (some ⟨g, 0, none⟩) r.length r.length) := (blk_cell BK.out 0).trans rfl
  clear hb
  go_wp2_with fail
  refine (SZ.out _).mono ?_
  rintro e w4 ⟨rfl, hw⟩
  have hb := hw
  clear hw
  replace HR := Aside0.mk (Kd.C_below HR.out hb)
  replace HB := Aside0.mk (below_step HB.out hb)
  replace HY := Aside0.mk (Kd.C_below HY.out hb)
  replace BK := Aside0.mk (blk_below BK.out hb)
  replace BK_c0 : (_ : Option Value) = some (.slice (some ⟨g, 0, none⟩) r.length r.length) := (blk_cell BK.out 0).trans rfl
  clear hb
  go_wp2_with fail
  have HA := Aside0.mk ha
  clear SZ L1 L2 T1 T2 b1 b2 ha hm1 hm2 hm3
  generalize w1.heap.size = bx at *
  go_loopg [15, 16, 17, 18] r.length (fun kq vi v16 v17 v18 w' => ∃ i : Nat, vi = .int .i64 i ∧ i ≤ r.length ∧ Aside0 (kq = r.length - i) ∧ Aside0 (Kd.C (Kd.int .i64) w' A r.length r) ∧ Aside0 (Kd.C (Kd.int .i64) w' (some ⟨g, 0, none⟩) r.length (layOf r)) ∧ Aside0 (Below w.heap.size w w') ∧ Aside0 (w'.heap[bx]? = some (.cells #[.slice (some ⟨g, 0, none⟩) r.length r.length] 43 (0, 0))))
  case atStart => exact ⟨0, rfl, by omega, ⟨by omega⟩, HR, HY, HB, BK⟩
  case round =>
    clear HR HY HB BK BK_c0
    obtain ⟨i, rfl, hi, HK, HR, HY, HB, BK⟩ := hrel
    have BK_c0 : (_ : Option Value) = some (.slice (some ⟨g, 0, none⟩) r.length r.length) := (blk_cell BK.out 0).trans rfl
    by_cases hlt : i < r.length
    · have hz := length_zero r.length
      have PL := Aside0.mk (place_yes i r.length · (by omega) hlt)
      have hlay := layOf_at r i hlt
      have hp : (inOrd r.length 0).getD i 0 < r.length := by
        have hm : (inOrd r.length 0).getD i 0 ∈ inOrd r.length 0 := by
          rw [List.getD_eq_getElem?_getD, List.getElem?_eq_getElem (by omega)]
          exact List.getElem_mem _
        exact (mem_ord.1 hm).1
      generalize (inOrd r.length 0).getD i 0 = p at PL hlay hp
      have HLAY := Aside0.mk hlay
      clear hlay hz
      go_wp2_with fail
      refine (PL.out _).mono ?_
      rintro e w5 ⟨rfl, hw⟩
      have hb := hw
      clear hw
      replace HR := Aside0.mk (Kd.C_below HR.out hb)
      replace HB := Aside0.mk (below_step HB.out hb)
      replace HY := Aside0.mk (Kd.C_below HY.out hb)
      replace BK := Aside0.mk (blk_below BK.out hb)
      replace BK_c0 : (_ : Option Value) = some (.slice (some ⟨g, 0, none⟩) r.length r.length) := (blk_cell BK.out 0).trans rfl
      clear hb
      obtain ⟨ad, e, hx⟩ := Kd.at_int HY.out (p : Int) (by omega) (by omega)
      cases e
      obtain ⟨ad2, e, hy⟩ := Kd.at_int HR.out (i : Int) (by omega) (by omega)
      cases e
      rw [Int.toNat_natCast] at hx hy
      rw [show rd (layOf r) (p : Int) = r.getD i 0 from HLAY.out] at hx
      rw [show rd r (i : Int) = r.getD i 0 from rfl] at hy
      obtain ⟨v, hv⟩ : ∃ v, r.getD i 0 = v := ⟨_, rfl⟩
      rw [hv] at hx hy HLAY
      clear hv
      rw [add_plain] at hx
      go_wp2
      go_quiet (fail)
      go_wp2
      replace HR := Aside0.mk (Kd.C_drewN HR.out nq)
      replace HY := Aside0.mk (Kd.C_drewN HY.out nq)
      replace HB := Aside0.mk (pw_below_drewN HB.out nq)
      replace BK := Aside0.mk (blk_drewN BK.out nq)
      clear hx hy BK_c0 PL
      generalize w5.drewN nq = wq at *
      go_loopg [18] p (fun kq vk w' => ∃ k : Nat, vk = .int .i64 k ∧ k < r.length ∧ Aside0 (anc k p) ∧ Aside0 (k ≤ kq) ∧ Aside0 (Kd.C (Kd.int .i64) w' (some ad2) r.length r) ∧ Aside0 (Kd.C (Kd.int .i64) w' (some ⟨g, 0, none⟩) r.length (layOf r)) ∧ Aside0 (Below w.heap.size w w') ∧ Aside0 (w'.heap[bx]? = some (.cells #[.slice (some ⟨g, 0, none⟩) r.length r.length] 43 (0, 0))))
      case atStart => exact ⟨p, rfl, hp, ⟨anc_self p⟩, ⟨Nat.le_refl _⟩, HR, HY, HB, BK⟩
      case round =>
        clear HR HY HB BK
        obtain ⟨k, rfl, hkn, HANC, HKQ, HR, HY, HB, BK⟩ := hrel
        have BK_c0 : (_ : Option Value) = some (.slice (some ⟨g, 0, none⟩) r.length r.length) := (blk_cell BK.out 0).trans rfl
        by_cases hka : a < k
        · have q1 : IntKind.i64.wrap ((k : Int) - 1) = (k : Int) - 1 := IntWalk.i64_in _ (by omega)
          have q2 : ((k : Int) - 1).tdiv 2 = (((k - 1) / 2 : Nat) : Int) := by rw [Int.tdiv_eq_ediv_of_nonneg (by omega)]; omega
          have q3 : IntKind.i64.wrap ((((k - 1) / 2 : Nat) : Int)) = (((k - 1) / 2 : Nat) : Int) := IntWalk.i64_in _ (by omega)
          obtain ⟨h, hh⟩ : ∃ h, (k - 1) / 2 = h := ⟨_, rfl⟩
          rw [hh] at q2 q3
          have hanc : anc h p := by rw [← hh]; exact anc_par p HANC.out (by omega)
          have hlt2 : h < k := by omega
          have HAN := Aside0.mk hanc
          by_cases he : h = a
          · have hw := way HG.out.1 HA.out hp HANC.out hka (hh.trans he)
            obtain ⟨_, e, hx⟩ := Kd.at_int HY.out (p : Int) (by omega) (by omega)
            cases e
            obtain ⟨_, e, hy⟩ := Kd.at_int HY.out (a : Int) (by have := HA.out; omega) (by have := HA.out; omega)
            cases e
            rw [Int.toNat_natCast, add_plain] at hx hy
            rw [rd_nat] at hx hy
            generalize (layOf r).getD p 0 = vp at hx hw
            generalize (layOf r).getD a 0 = va at hy hw
            have hal := HA.out
            have s1 : IntKind.i64.wrap (2 * (a : Int)) = 2 * (a : Int) := IntWalk.i64_in _ (by omega)
            have s2 : IntKind.i64.wrap (2 * (a : Int) + 1) = 2 * (a : Int) + 1 := IntWalk.i64_in _ (by omega)
            have HH := Aside0.mk hh
            clear hh hanc
            subst he
            by_cases hk1 : k = 2 * h + 1
            · rw [decide_eq_true hk1] at hw
              have t1 : ((k : Int) == 2 * (h : Int) + 1) = true := beq_iff_eq.2 (by omega)
              have t2 : decide (vp < va) = true := hw.symm
              have t3 := Aside0.mk hk1
              clear hw hk1
              go_wp2
              go_quiet (fail)
              go_wp2
              go_roundg h
              case measure => have := HKQ.out; omega
              case rel => exact ⟨h, rfl, by omega, HAN, ⟨Nat.le_refl _⟩, ⟨Kd.C_drewN HR.out nq⟩, ⟨Kd.C_drewN HY.out nq⟩, ⟨pw_below_drewN HB.out nq⟩, ⟨blk_drewN BK.out nq⟩⟩
            · rw [decide_eq_false hk1] at hw
              have t1 : ((k : Int) == 2 * (h : Int) + 1) = false := beq_eq_false_iff_ne.2 (by omega)
              have t2 : decide (vp < va) = false := hw.symm
              have t3 := Aside0.mk hk1
              clear hw hk1
              go_wp2
              go_quiet (fail)
              go_wp2
              go_roundg h
              case measure => have := HKQ.out; omega
              case rel => exact ⟨h, rfl, by omega, HAN, ⟨Nat.le_refl _⟩, ⟨Kd.C_drewN HR.out nq⟩, ⟨Kd.C_drewN HY.out nq⟩, ⟨pw_below_drewN HB.out nq⟩, ⟨blk_drewN BK.out nq⟩⟩
          · have q4 : ((h : Int) == (a : Int)) = false := beq_eq_false_iff_ne.2 (by omega)
            have HH := Aside0.mk hh
            clear hh hanc
            go_wp2
            go_quiet (fail)
            go_wp2
            go_roundg h
            case measure => have := HKQ.out; omega
            case rel => exact ⟨h, rfl, by omega, HAN, ⟨Nat.le_refl _⟩, ⟨Kd.C_drewN HR.out nq⟩, ⟨Kd.C_drewN HY.out nq⟩, ⟨pw_below_drewN HB.out nq⟩, ⟨blk_drewN BK.out nq⟩⟩
        · go_wp2
          go_roundg (r.length - (i + 1))
          case measure => have := HK.out; omega
          case rel => exact ⟨i + 1, by go_num, by omega, ⟨rfl⟩, HR, HY, HB, BK⟩
    · go_wp2_with fail
      refine (awake_any _).mono ?_
      rintro e w4 ⟨rfl, hw⟩
      go_wp2
      go_ret
      exact ⟨rfl, below_step HB.out hw⟩
theorem law {W0 : World} (A : Option Addr) (c : Nat) (l : List Int) (g : Kd.C (Kd.int .i64) W0 A l.length l) (hc : l.length ≤ c) (y : l.length * 8 ≤ 140737488351232) (w : ∀ x ∈ l, (Lit.int .i64 x).wf = true)
    (a : Int) (wa : (Lit.int .i64 a).wf = true) (W : World) (hW : W = W0 := by rfl) : Calls Try.prog 9 #[.slice A l.length c, .int .i64 a] W fun e w' => e = .returned (.bool true) ∧ Below W.heap.size W w' := by
  subst hW
  exact any A c l a W g hc
end Go.Proofs.Ytmjfnifdgneooaa.A16
