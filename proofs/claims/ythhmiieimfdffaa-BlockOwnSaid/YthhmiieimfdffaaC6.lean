/- Walk of a layout's Rank: the search in blocks; whatever keys the layout has. -/
import Derived.Test.YthhmiieimfdffaaC5
import Derived.ScopeJumps
namespace Go.Proofs.Ythhmiieimfdffaa.C6
open Go.RowKit Go.Proofs.YthhmiieimfdffaaW.PrintWords Go.Proofs.YthhmiieimfdffaaW.PrintLast Go.Proofs.YthhmiieimfdffaaW.PrintMore C1 C2 C3 C4 C5 Q1
set_option linter.unusedVariables false
set_option linter.unusedSimpArgs false

set_option maxHeartbeats 400000 in
theorem rank_no (b : Int) (hb : bitsB b = false) (A : Option Addr) (c : Nat) (l : List Int) (key : Int) (w : World) :
    Calls Try.prog 17 #[.agg #[.int .i64 b, .slice A l.length c], .int .i64 key] w fun e w' => e = .returned (.tuple #[.int .i64 0, .int .i64 0, .int .i64 10]) ∧ Below w.heap.size w w' := by
  have HB := Aside0.mk (below_alloc (Below.refl w.heap.size w) (.cells #[.int .i64 b, .slice A l.length c] 25))
  have h := right_any b
  rw [hb] at h
  have H := Aside0.mk h
  clear h
  go_enter Try.func17, Try.ntmps17
  go_wp2
  go_step3
  go_wp2_with fail
  refine (H.out _).mono ?_
  rintro e w1 ⟨rfl, hw⟩
  replace HB := Aside0.mk (below_step HB.out hw.below)
  clear hw
  go_wp2
  rw [Exit.noGoto_ret]
  go_ret3
  exact ⟨rfl, HB.out⟩
/-- What holds of the search at a block. -/
def At (l : List Int) (w : Nat) (key : Int) (r c i : Nat) : Prop := r + (srch l w key i).1 = (srch l w key 0).1 ∧ c + (srch l w key i).2 = (srch l w key 0).2
theorem At.bound {l : List Int} {w : Nat} (hw : 0 < w) {key : Int} {r c i : Nat} (h : At l w key r c i) : r ≤ l.length ∧ c ≤ l.length * w := by
  have h1 := srch_le l w key l.length 0 (by omega)
  have h2 := cnt_le hw (n := l.length) 0
  unfold At at h
  omega
theorem At.next {l : List Int} {w : Nat} (hw : 0 < w) {key : Int} {r c i : Nat} (h : At l w key r c i) (hi : i * w < l.length) :
    At l w key (r + (rankN (blkOf l w i) key + sumC l.length w (kid w i) (rankN (blkOf l w i) key))) (c + comparedN (blkOf l w i) key) (kid w i + rankN (blkOf l w i) key) := by
  unfold At at h ⊢
  rw [srch_in ⟨hw, hi⟩] at h
  simp only at h
  omega
theorem belowI {b : Nat} {A : Option Addr} {c : Nat} {l : List Int} (h1 : 1 ≤ b) (h2 : b ≤ 10) (hl : l.length ≤ 1000000) {a m : Nat} (hm : m ≤ a * wd b) (hs : sumC l.length (wd b) a m ≤ l.length) (hc : l.length ≤ c) (w : World) (hr : Kd.C (Kd.int .i64) w A l.length l) : Calls Try.prog 30 #[.agg #[.int .i64 b, .slice A l.length c], .int .i64 a, .int .i64 ((a : Int) + (m : Int))] w fun e w' => e = .returned (.int .i64 (sumC l.length (wd b) a m)) ∧ Below w.heap.size w w' := by
  have h := below_any (w := w) h1 h2 hl hm hs hr hc
  rw [Int.natCast_add] at h
  exact h
theorem wp_scope_back {P : Program} {a : Act} {w : World} {Q : Exit → Act → World → Prop} {c tail : Code} (l : Nat) (J : Act → World → Prop) (μ : Act → World → Nat) (hf : findLabel c l = some (Code.seq .skip tail))
    (pass : ∀ a w, J a w → tail.wp P (Exit.jump l (fun a' w' => J a' w' ∧ μ a' w' < μ a w) Q) a w)
    (first : (∀ a w, J a w → tail.wp P (Exit.jump l J Q) a w) → c.wp P (Exit.jump l J Q) a w) : (Code.scope c).wp P Q a w := by
  refine wp_scope_jumps l J μ hf (first fun a w h => wp_mono (pass a w h) ?_) (fun a w h => wp_seq (wp_skip (pass a w h)))
  intro e a w h
  cases e <;> first | exact ⟨h.1, h.2.1⟩ | exact h
set_option maxHeartbeats 4000000 in
set_option maxRecDepth 100000 in
theorem rank_yes {b : Nat} (h1 : 1 ≤ b) (h2 : b ≤ 10) (A : Option Addr) (c : Nat) (l : List Int) (key : Int) (w : World) (hr : Kd.C (Kd.int .i64) w A l.length l) (hc : l.length ≤ c) (hl : l.length ≤ 1000000) :
    Calls Try.prog 17 #[.agg #[.int .i64 b, .slice A l.length c], .int .i64 key] w fun e w' => e = .returned (.tuple #[.int .i64 (srch l (wd b) key 0).1, .int .i64 (srch l (wd b) key 0).2, .int .i64 0]) ∧ Below w.heap.size w w' := by
  have HB := Aside0.mk (below_alloc (Below.refl w.heap.size w) (.cells #[.int .i64 b, .slice A l.length c] 25))
  have HK := Aside0.mk (blk_new w (.cells #[.int .i64 b, .slice A l.length c] 25))
  have HR := Aside0.mk (Kd.C_below hr HB.out)
  have h := right_any b
  rw [show bitsB b = true from decide_eq_true (by omega)] at h
  have H := Aside0.mk h
  obtain ⟨w1, w2, w3⟩ := wd_is h1 h2
  have HP := Aside0.mk (And.intro h1 h2)
  clear h hr w3 h1 h2
  go_enter Try.func17, Try.ntmps17
  go_wp2
  refine wp_scope_back 0 (fun a' w' => ∃ (r cm i : Nat) (u10 u11 u12 u13 u14 u15 u16 u17 u18 u19 u20 u21 u22 u23 u24 u25 u26 u27 u28 u29 u30 u31 u32 u33 u34 u35 u36 u37 u38 u39 u40 u41 u42 u43 u44 u45 u46 u47 u48 u49 : Value), a' = { tmps := #[.agg #[.int .i64 b, .slice A l.length c], .int .i64 key, .pointer (some ⟨w.heap.size, 0, none⟩), undef, .int .i64 0, .int .i64 0, .int .i64 0, .int .i64 r, .int .i64 cm, .int .i64 i, u10, u11, u12, u13, u14, u15, u16, u17, u18, u19, u20, u21, u22, u23, u24, u25, u26, u27, u28, u29, u30, u31, u32, u33, u34, u35, u36, u37, u38, u39, u40, u41, u42, u43, u44, u45, u46, u47, u48, u49], defers := [] } ∧ Aside0 (At l (wd b) key r cm i) ∧ i ≤ 2000000000 ∧ Aside0 (Kd.C (Kd.int .i64) w' A l.length l) ∧ Aside0 (Below w.heap.size w w') ∧ Aside0 (w'.heap[w.heap.size]? = some (.cells #[.int .i64 b, .slice A l.length c] 25 (0, 0))))
    (fun a' _ => l.length - (intOf (a'.tmps.getD 9 undef)).toNat) rfl ?pass ?first
  case first =>
    intro hlabel
    have HL := Aside0.mk hlabel
    clear hlabel
    go_wp2_with fail
    refine (H.out _).mono ?_
    rintro e w1 ⟨rfl, hw⟩
    have hb := hw.below
    clear hw
    replace HR := Aside0.mk (Kd.C_below HR.out hb)
    replace HB := Aside0.mk (below_step HB.out hb)
    replace HK := Aside0.mk (blk_below HK.out hb)
    clear hb H
    go_wp2
    go_step3
    simp only [Exit.then]
    apply_assumption
    exact HL.out _ _ ⟨0, 0, 0, _, _, _, _, _, _, _, _, _, _, _, _, _, _, _, _, _, _, _, _, _, _, _, _, _, _, _, _, _, _, _, _, _, _, _, _, _, _, _, _, rfl, ⟨⟨by omega, by omega⟩⟩, by omega, HR, HB, HK⟩
  case pass =>
    clear HR HB HK
    rintro a' w0 ⟨r, cm, i, u10, u11, u12, u13, u14, u15, u16, u17, u18, u19, u20, u21, u22, u23, u24, u25, u26, u27, u28, u29, u30, u31, u32, u33, u34, u35, u36, u37, u38, u39, u40, u41, u42, u43, u44, u45, u46, u47, u48, u49, rfl, HA, hi9, HR, HB, HK⟩
    have hbd := HA.out.bound w1
    have hcm : cm ≤ 1023000000 := Nat.le_trans hbd.2 (Nat.mul_le_mul hl w2)
    have HK_c0 : (_ : Option Value) = some (.int .i64 b) := (blk_cell HK.out 0).trans rfl
    have HK_c1 : (_ : Option Value) = some (.slice A l.length c) := (blk_cell HK.out 1).trans rfl
    by_cases h : i * wd b < l.length
    · have hb := (lt_blk (i := i) w1).2 h
      have hlt := lt_of_in ⟨w1, h⟩
      obtain ⟨ad, e, _⟩ := Kd.at_int HR.out 0 (by omega) (by omega)
      cases e
      have hz := part_in ⟨w1, h⟩
      have hz2 := cnt_le w1 (n := l.length) i
      have hrk := rankN_le (blkOf l (wd b) i) key
      have hck := comparedN_le (blkOf l (wd b) i) key
      rw [blkOf_length] at hrk hck
      have hsm := sumC_le l.length (wd b) (kid (wd b) i) hrk
      have hzw : sz l.length (wd b) i ≤ wd b := by unfold sz; omega
      have hk1 : kid (wd b) i ≤ 1025000000 := by
        unfold kid
        have : i * (wd b + 1) ≤ 1000000 * 1024 := Nat.mul_le_mul (by omega) (by omega)
        omega
      have hkm : rankN (blkOf l (wd b) i) key ≤ kid (wd b) i * wd b := by
        have : 1 * wd b ≤ kid (wd b) i * wd b := Nat.mul_le_mul_right _ (by unfold kid; omega)
        omega
      have hnx := Aside0.mk (HA.out.next w1 h)
      have C1 := Aside0.mk (fun w hr => blocks_any (A := some ad) (w := w) HP.out.1 HP.out.2 hl hr hc)
      have C2 := Aside0.mk (fun w hr => block_any (ad := ad) (w := w) HP.out.1 HP.out.2 hl h hr hc)
      have C3 := Aside0.mk (fun w hr => less_any (c := sz l.length (wd b) i) (l := blkOf l (wd b) i) (w := w) (A := some (ad.add (i * wd b))) key (by rw [blkOf_length]; omega) hr (by rw [blkOf_length]; omega))
      rw [blkOf_length] at C3
      have C4 := Aside0.mk (fun w hr => child_any (A := some ad) (w := w) (i := i) HP.out.1 HP.out.2 (by omega) hr hc)
      have C5 := Aside0.mk (fun w hr => belowI (A := some ad) (w := w) HP.out.1 HP.out.2 hl hkm (by omega) hc hr)
      have C6 := Aside0.mk (fun w hr => C_block (w := w) (c := c) (ad := ad) (l := l) hr h hc)
      have hkg := kid_gt (wd b) i
      have hs6 : sumC l.length (wd b) (kid (wd b) i) (rankN (blkOf l (wd b) i) key) ≤ 1000000 := by omega
      clear hz hz2 HA
      generalize rankN (blkOf l (wd b) i) key = lo at *
      generalize comparedN (blkOf l (wd b) i) key = cc at *
      generalize sumC l.length (wd b) (kid (wd b) i) lo = s at *
      generalize kid (wd b) i = kd at *
      generalize sz l.length (wd b) i = m at *
      generalize blk l.length (wd b) = nb at *
      go_wp2_with fail
      refine (C1.out _ HR.out).mono ?_
      rintro e w1 ⟨rfl, hw⟩
      have hb := hw
      clear hw
      replace HR := Aside0.mk (Kd.C_below HR.out hb)
      replace HB := Aside0.mk (below_step HB.out hb)
      replace HK := Aside0.mk (blk_below HK.out hb)
      replace HK_c0 : (_ : Option Value) = some (.int .i64 b) := (blk_cell HK.out 0).trans rfl
      replace HK_c1 : (_ : Option Value) = some (.slice (some ad) l.length c) := (blk_cell HK.out 1).trans rfl
      clear hb
      have hd : decide ((i : Int) < (nb : Int)) = true := decide_eq_true (by omega)
      go_wp2_with fail
      refine (C2.out _ HR.out).mono ?_
      rintro e w2 ⟨rfl, hw⟩
      have hb := hw
      clear hw
      replace HR := Aside0.mk (Kd.C_below HR.out hb)
      replace HB := Aside0.mk (below_step HB.out hb)
      replace HK := Aside0.mk (blk_below HK.out hb)
      replace HK_c0 : (_ : Option Value) = some (.int .i64 b) := (blk_cell HK.out 0).trans rfl
      replace HK_c1 : (_ : Option Value) = some (.slice (some ad) l.length c) := (blk_cell HK.out 1).trans rfl
      clear hb
      go_wp2_with fail
      refine (C3.out _ (C6.out _ HR.out)).mono ?_
      rintro e w3 ⟨rfl, hw⟩
      have hb := hw.below
      clear hw
      replace HR := Aside0.mk (Kd.C_below HR.out hb)
      replace HB := Aside0.mk (below_step HB.out hb)
      replace HK := Aside0.mk (blk_below HK.out hb)
      have HK_c0 : (_ : Option Value) = some (.int .i64 b) := (blk_cell HK.out 0).trans rfl
      have HK_c1 : (_ : Option Value) = some (.slice (some ad) l.length c) := (blk_cell HK.out 1).trans rfl
      go_wp2_with fail
      refine (C4.out _ HR.out).mono ?_
      rintro e w3 ⟨rfl, hw⟩
      have hb := hw
      clear hw
      replace HR := Aside0.mk (Kd.C_below HR.out hb)
      replace HB := Aside0.mk (below_step HB.out hb)
      replace HK := Aside0.mk (blk_below HK.out hb)
      replace HK_c0 : (_ : Option Value) = some (.int .i64 b) := (blk_cell HK.out 0).trans rfl
      replace HK_c1 : (_ : Option Value) = some (.slice (some ad) l.length c) := (blk_cell HK.out 1).trans rfl
      clear hb
      go_wp2_with fail
      refine (C5.out _ HR.out).mono ?_
      rintro e w4 ⟨rfl, hw⟩
      have hb := hw
      clear hw
      replace HR := Aside0.mk (Kd.C_below HR.out hb)
      replace HB := Aside0.mk (below_step HB.out hb)
      replace HK := Aside0.mk (blk_below HK.out hb)
      replace HK_c0 : (_ : Option Value) = some (.int .i64 b) := (blk_cell HK.out 0).trans rfl
      replace HK_c1 : (_ : Option Value) = some (.slice (some ad) l.length c) := (blk_cell HK.out 1).trans rfl
      clear hb
      go_wp2
      have e1 : (r : Int) + ((lo : Int) + (s : Int)) = ((r + (lo + s) : Nat) : Int) := by omega
      have e2 : (cm : Int) + (cc : Int) = ((cm + cc : Nat) : Int) := by omega
      have e3 : (kd : Int) + (lo : Int) = ((kd + lo : Nat) : Int) := by omega
      rw [e1, e2, e3]
      go_step3
      refine ⟨rfl, ⟨r + (lo + s), cm + cc, kd + lo, _, _, _, _, _, _, _, _, _, _, _, _, _, _, _, _, _, _, _, _, _, _, _, _, _, _, _, _, _, _, _, _, _, _, _, _, _, _, _, _, rfl, hnx, by omega, HR, HB, HK⟩, ?_⟩
      show l.length - (intOf (.int .i64 ((kd + lo : Nat) : Int))).toNat < l.length - (intOf (.int .i64 (i : Int))).toNat
      simp only [intOf, Int.toNat_natCast]
      omega
    · have hsA := 0
      have hb : ¬ i < blk l.length (wd b) := fun hc => h ((lt_blk (i := i) w1).1 hc)
      have hs : srch l (wd b) key i = (0, 0) := srch_out h
      go_wp2_with fail
      refine (blocks_any HP.out.1 HP.out.2 hl HR.out hc).mono ?_
      rintro e w5 ⟨rfl, hw⟩
      have hb := hw
      clear hw
      replace HR := Aside0.mk (Kd.C_below HR.out hb)
      replace HB := Aside0.mk (below_step HB.out hb)
      replace HK := Aside0.mk (blk_below HK.out hb)
      replace HK_c0 : (_ : Option Value) = some (.int .i64 b) := (blk_cell HK.out 0).trans rfl
      replace HK_c1 : (_ : Option Value) = some (.slice A l.length c) := (blk_cell HK.out 1).trans rfl
      clear hb
      have hd : decide ((i : Int) < (blk l.length (wd b) : Int)) = false := decide_eq_false (by omega)
      go_wp2
      simp only [Exit.jump]
      go_ret3
      have hA := HA.out
      unfold At at hA
      rw [hs] at hA
      exact ⟨by rw [← hA.1, ← hA.2]; simp, HB.out⟩
end Go.Proofs.Ythhmiieimfdffaa.C6
