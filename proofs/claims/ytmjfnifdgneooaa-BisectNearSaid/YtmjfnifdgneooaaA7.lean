/- Walk of the law BisectNear: it returns true; whatever the numbers. -/
import Derived.Test.YtmjfnifdgneooaaA5
namespace Go.Proofs.Ytmjfnifdgneooaa.A7
open Go.RowKit Go.Proofs.YtmjfnifdgneooaaW.PrintWords Go.Proofs.YtmjfnifdgneooaaW.PrintLast Go.Proofs.YtmjfnifdgneooaaW.PrintMore B1 A1 B2 A2 A3 A4 A5
set_option linter.unusedVariables false
set_option linter.unusedSimpArgs false

theorem near_side {l : List Int} {key : Int} (hr : risingB l = true) (hpos : 0 < l.length) : nearN l key = rankN l key ∨ (nearN l key + 1 = rankN l key) := by
  have hle := rankN_le l key
  unfold nearN
  simp only
  generalize rankN l key = p at *
  split
  · omega
  · split
    · omega
    · split <;> omega
/-- How far, under a name that the walk doesn't open. -/
def farI (a b : Int) : Int := if a < b then b - a else a - b
theorem refFarI_any (x key : Int) (hx : W64 x) (hk : W64 key) (w : World) : Calls Try.prog 22 #[.int .i64 x, .int .i64 key] w fun e w' => e = .returned (.int .u64 (farI x key)) ∧ Drawn0 w w' := refFar_any x key hx hk w

set_option maxHeartbeats 4000000 in
set_option maxRecDepth 100000 in
theorem nearlaw_any (A0 : Option Addr) (c0 : Nat) (l : List Int) (key : Int) (hkey : W64 key) (w : World) (hr : Kd.C (Kd.int .i64) w A0 l.length l) (hc : l.length ≤ c0) :
    Calls Try.prog 6 #[.slice A0 l.length c0, .int .i64 key] w fun e w' => e = .returned (.bool true) ∧ Below w.heap.size w w' := by
  have HKey := Aside0.mk hkey
  have HR := Aside0.mk hr
  clear hr hkey
  go_enter Try.func6, Try.ntmps6
  go_wp2_with fail
  refine (risen_any _ _ l _ HR.out hc).mono ?_
  rintro e w0 ⟨r, hg, A, c, rfl, hcr, hC, hb⟩
  have HG := Aside0.mk hg
  have HR := Aside0.mk hC
  have HB := Aside0.mk hb
  have h200 : r.length ≤ 200 := hg.2.1
  clear hg hC hb
  by_cases hp : 0 < r.length
  · have hp0 : ((r.length : Int) == 0) = false := beq_eq_false_iff_ne.2 (by omega)
    have hside := near_side (key := key) HG.out.1 hp
    have hrl := rankN_le r key
    have HN := Aside0.mk (near_spec HG.out.1 hp HG.out.w64 HKey.out)
    have hn := HN.out.1
    have H1 := Aside0.mk (near_yes A c r key · · hcr (by omega) HG.out.1 hp)
    have H2 := Aside0.mk (rank_yes A c r key · · hcr (by omega) HG.out.1)
    generalize nearN r key = n at hside HN hn H1
    generalize rankN r key = p at hside hrl H2
    generalize comparedN r key = cmp at H2
    go_wp2_with fail
    refine (H1.out _ HR.out).mono ?_
    rintro e w1 ⟨rfl, hw⟩
    have hb := hw.below
    clear hw
    replace HR := Aside0.mk (Kd.C_below HR.out hb)
    replace HB := Aside0.mk (below_step HB.out hb)
    clear hb
    go_wp2_with fail
    refine (H2.out _ HR.out).mono ?_
    rintro e w2 ⟨rfl, hw⟩
    have hb := hw.below
    clear hw
    replace HR := Aside0.mk (Kd.C_below HR.out hb)
    replace HB := Aside0.mk (below_step HB.out hb)
    clear hb
    rcases hside with h | h
    · subst h
      have g1 : decide (r.length ≤ n) = false := decide_eq_false (by omega)
      go_wp2
      go_loopg [11, 12, 13] r.length (fun kq vi v12 v13 w' => ∃ i : Nat, vi = .int .i64 i ∧ i ≤ r.length ∧ Aside0 (kq = r.length - i) ∧ Aside0 (Kd.C (Kd.int .i64) w' A r.length r) ∧ Aside0 (Below w.heap.size w w'))
      case atStart => exact ⟨0, rfl, by omega, ⟨by omega⟩, HR, HB⟩
      case round =>
        clear HR HB
        obtain ⟨i, rfl, hi, HK, HR, HB⟩ := hrel
        by_cases hlt : i < r.length
        · obtain ⟨ad, e, hx⟩ := Kd.at_int HR.out (i : Int) (by omega) (by omega)
          cases e
          rw [Int.toNat_natCast] at hx
          rw [show rd r (i : Int) = r.getD i 0 from rfl] at hx
          have hwx := HG.out.w64 i hlt
          have hwn := HG.out.w64 n hn
          obtain ⟨s1, s2, s3⟩ := HN.out
          have hle : farI (r.getD n 0) key ≤ farI (r.getD i 0) key := s2 i hlt
          have hll : i < n → farI (r.getD n 0) key < farI (r.getD i 0) key := s3 i
          clear s1 s2 s3
          have HL := Aside0.mk hle
          have HLL := Aside0.mk hll
          clear hle hll
          generalize hv : r.getD i 0 = v at hx hwx HL HLL
          generalize hu : r.getD n 0 = u at hwn HL HLL
          have HU := Aside0.mk hu
          clear hv hu
          go_wp2_with fail
          refine (refFarI_any v key hwx HKey.out _).mono ?_
          rintro e w2 ⟨rfl, hw⟩
          replace HR := Aside0.mk (Kd.C_below HR.out hw.below)
          replace HB := Aside0.mk (below_step HB.out hw.below)
          clear hw
          obtain ⟨ad', e, hy⟩ := Kd.at_int HR.out (n : Int) (by omega) (by omega)
          cases e
          rw [Int.toNat_natCast, show rd r (n : Int) = r.getD n 0 from rfl, HU.out] at hy
          go_wp2_with fail
          refine (refFarI_any u key hwn HKey.out _).mono ?_
          rintro e w3 ⟨rfl, hw⟩
          replace HR := Aside0.mk (Kd.C_below HR.out hw.below)
          replace HB := Aside0.mk (below_step HB.out hw.below)
          clear hw
          generalize farI v key = fv at HL HLL
          generalize farI u key = fu at HL HLL
          have g1 : decide (fv < fu) = false := decide_eq_false (by have := HL.out; omega)
          by_cases c1 : fv = fu
          · subst c1
            have g3 : decide (i < n) = false := decide_eq_false (fun h => by have := HLL.out h; omega)
            go_wp2
            go_roundg (r.length - (i + 1))
            case measure => have := HK.out; omega
            case rel => exact ⟨i + 1, by go_num, by omega, ⟨rfl⟩, HR, HB⟩
          · have g2 : (fv == fu) = false := beq_eq_false_iff_ne.2 c1
            clear c1
            go_wp2
            go_roundg (r.length - (i + 1))
            case measure => have := HK.out; omega
            case rel => exact ⟨i + 1, by go_num, by omega, ⟨rfl⟩, HR, HB⟩
        · go_wp2_with fail
          refine (awake_any _).mono ?_
          rintro e w4 ⟨rfl, hw⟩
          go_wp2
          go_ret
          exact ⟨rfl, below_step HB.out hw⟩
    · subst h
      have g1 : decide (r.length ≤ n) = false := decide_eq_false (by omega)
      have g2 : ((n : Int) == ((n + 1 : Nat) : Int)) = false := beq_eq_false_iff_ne.2 (by omega)
      have g3 : ((n : Int) == (n : Int) + 1) = false := beq_eq_false_iff_ne.2 (by omega)
      go_wp2
      go_loopg [11, 12, 13] r.length (fun kq vi v12 v13 w' => ∃ i : Nat, vi = .int .i64 i ∧ i ≤ r.length ∧ Aside0 (kq = r.length - i) ∧ Aside0 (Kd.C (Kd.int .i64) w' A r.length r) ∧ Aside0 (Below w.heap.size w w'))
      case atStart => exact ⟨0, rfl, by omega, ⟨by omega⟩, HR, HB⟩
      case round =>
        clear HR HB
        obtain ⟨i, rfl, hi, HK, HR, HB⟩ := hrel
        by_cases hlt : i < r.length
        · obtain ⟨ad, e, hx⟩ := Kd.at_int HR.out (i : Int) (by omega) (by omega)
          cases e
          rw [Int.toNat_natCast] at hx
          rw [show rd r (i : Int) = r.getD i 0 from rfl] at hx
          have hwx := HG.out.w64 i hlt
          have hwn := HG.out.w64 n hn
          obtain ⟨s1, s2, s3⟩ := HN.out
          have hle : farI (r.getD n 0) key ≤ farI (r.getD i 0) key := s2 i hlt
          have hll : i < n → farI (r.getD n 0) key < farI (r.getD i 0) key := s3 i
          clear s1 s2 s3
          have HL := Aside0.mk hle
          have HLL := Aside0.mk hll
          clear hle hll
          generalize hv : r.getD i 0 = v at hx hwx HL HLL
          generalize hu : r.getD n 0 = u at hwn HL HLL
          have HU := Aside0.mk hu
          clear hv hu
          go_wp2_with fail
          refine (refFarI_any v key hwx HKey.out _).mono ?_
          rintro e w2 ⟨rfl, hw⟩
          replace HR := Aside0.mk (Kd.C_below HR.out hw.below)
          replace HB := Aside0.mk (below_step HB.out hw.below)
          clear hw
          obtain ⟨ad', e, hy⟩ := Kd.at_int HR.out (n : Int) (by omega) (by omega)
          cases e
          rw [Int.toNat_natCast, show rd r (n : Int) = r.getD n 0 from rfl, HU.out] at hy
          go_wp2_with fail
          refine (refFarI_any u key hwn HKey.out _).mono ?_
          rintro e w3 ⟨rfl, hw⟩
          replace HR := Aside0.mk (Kd.C_below HR.out hw.below)
          replace HB := Aside0.mk (below_step HB.out hw.below)
          clear hw
          generalize farI v key = fv at HL HLL
          generalize farI u key = fu at HL HLL
          have g1 : decide (fv < fu) = false := decide_eq_false (by have := HL.out; omega)
          by_cases c1 : fv = fu
          · subst c1
            have g3 : decide (i < n) = false := decide_eq_false (fun h => by have := HLL.out h; omega)
            go_wp2
            go_roundg (r.length - (i + 1))
            case measure => have := HK.out; omega
            case rel => exact ⟨i + 1, by go_num, by omega, ⟨rfl⟩, HR, HB⟩
          · have g2 : (fv == fu) = false := beq_eq_false_iff_ne.2 c1
            clear c1
            go_wp2
            go_roundg (r.length - (i + 1))
            case measure => have := HK.out; omega
            case rel => exact ⟨i + 1, by go_num, by omega, ⟨rfl⟩, HR, HB⟩
        · go_wp2_with fail
          refine (awake_any _).mono ?_
          rintro e w4 ⟨rfl, hw⟩
          go_wp2
          go_ret
          exact ⟨rfl, below_step HB.out hw⟩
  · have h0 : r = [] := List.eq_nil_of_length_eq_zero (by omega)
    subst h0
    go_wp2_with fail
    refine (near_none _ _ key _ HR.out).mono ?_
    rintro e w3 ⟨rfl, hw⟩
    have hb := hw.below
    clear hw
    replace HR := Aside0.mk (Kd.C_below HR.out hb)
    replace HB := Aside0.mk (below_step HB.out hb)
    clear hb
    go_wp2_with fail
    refine (rank_yes _ _ [] key _ HR.out hcr (by simp) rfl).mono ?_
    rintro e w4 ⟨rfl, hw⟩
    have hb := hw.below
    clear hw
    replace HR := Aside0.mk (Kd.C_below HR.out hb)
    replace HB := Aside0.mk (below_step HB.out hb)
    clear hb
    go_wp2_with fail
    refine (awake_any _).mono ?_
    rintro e w5 ⟨rfl, hw⟩
    have hb := hw
    clear hw
    replace HR := Aside0.mk (Kd.C_below HR.out hb)
    replace HB := Aside0.mk (below_step HB.out hb)
    clear hb
    go_wp2
    go_ret
    exact ⟨rfl, HB.out⟩
theorem nearLaw {W0 : World} (A : Option Addr) (c : Nat) (l : List Int) (g : Kd.C (Kd.int .i64) W0 A l.length l) (hc : l.length ≤ c) (y : l.length * 8 ≤ 140737488351232) (w : ∀ x ∈ l, (Lit.int .i64 x).wf = true)
    (a : Int) (wa : (Lit.int .i64 a).wf = true) (W : World) (hW : W = W0 := by rfl) : Calls Try.prog 6 #[.slice A l.length c, .int .i64 a] W fun e w' => e = .returned (.bool true) ∧ Below W.heap.size W w' := by
  subst hW
  exact nearlaw_any A c l a (w64_of wa) W g hc
end Go.Proofs.Ytmjfnifdgneooaa.A7
