/- The law PickAfter walked: it returns true; whatever the counts and the step. -/
import Derived.Test.YtlaegahdignphaaDoorN4
import Derived.Test.YtlaegahdignphaaDoorO6
namespace Go.Proofs.YtlaegahdignphaaDoor.O7
open Go.RowKit Go.Shelf Go.Proofs.YtlaegahdignphaaDoorW.PrintWords Go.Proofs.YtlaegahdignphaaDoorW.PrintLast Go.Proofs.YtlaegahdignphaaDoorW.PrintMore Q1 Q2 L1 L3 S1 M1 M2 M3 M4 M5 M6 M7 M8 M9 N1 N2 N3 N4 N7 O4 O5 O6 SL SG
set_option linter.unusedVariables false
set_option linter.unusedSimpArgs false

def Yes (f : FuncId) (w : World) (A : Option Addr) (n c : Nat) (K F S C : Int) (m : List Int) : Prop := Calls Tryd.prog f #[.slice A n c, .agg #[.int .i64 K, .int .i64 F, .int .i64 S, .int .i64 C]] w fun e w' => ∃ A' c', e = .returned (.tuple #[.slice A' m.length c', .int .i64 0]) ∧ Sep w w' [S1.Own (.slice A' m.length c') m]
def No (f : FuncId) (w : World) (A : Option Addr) (n c : Nat) (K F S C : Int) : Prop := Calls Tryd.prog f #[.slice A n c, .agg #[.int .i64 K, .int .i64 F, .int .i64 S, .int .i64 C]] w fun e w' => e = .returned (.tuple #[.slice none 0 0, .int .i64 1]) ∧ Below w.heap.size w w'
theorem cap_double {l : List Int} (hcp : Caps l) : capB (16 * (l.length : Int)) = decide (l.length ≠ 512) := by
  have h : ∀ h : Nat, h < 10 → 2 ≤ h → capB (16 * ((2 ^ h : Nat) : Int)) = decide (2 ^ h ≠ 512) := by decide +kernel
  have := h (hN l) (by have := hcp.h9; omega) hcp.h2
  rwa [← hcp.len] at this
theorem cap_half {l : List Int} (hcp : Caps l) : capB (4 * (l.length : Int)) = decide (l.length ≠ 4) := by
  have h : ∀ h : Nat, h < 10 → 2 ≤ h → capB (4 * ((2 ^ h : Nat) : Int)) = decide (2 ^ h ≠ 4) := by decide +kernel
  have := h (hN l) (by have := hcp.h9; omega) hcp.h2
  rwa [← hcp.len] at this
/-- Both tell one thing. -/
theorem both {w : World} {A : Option Addr} {c : Nat} {l : List Int} (hr : Kd.C (Kd.int .i64) w A l.length l) (hlc : l.length ≤ c) (h0 : ckE l = 0) (K F S C : Int) :
    (∃ m : List Int, m.length ≤ 1024 ∧ ∀ W, Below w.heap.size w W → Yes 40 W A l.length c K F S C m ∧ Yes 41 W A l.length c K F S C m) ∨ (∀ W, Below w.heap.size w W → No 40 W A l.length c K F S C ∧ No 41 W A l.length c K F S C) := by
  obtain ⟨hc, hg⟩ := ck_zero h0
  have hcp := caps_of hc
  have hl := hcp.le
  have hb := good_sum hg
  have h4 : 4 ≤ l.length := by rw [hcp.len]; exact Nat.pow_le_pow_right (n := 2) (i := 2) (by omega) hcp.h2
  obtain ⟨m, hm⟩ : ∃ m, l.length = 2 * m := ⟨2 ^ (hN l - 1), by rw [hcp.len, ← Nat.pow_succ']; congr 1; have := hcp.h2; omega⟩
  have hd : l.length / 2 = m := by omega
  by_cases a1 : (K, F, S, C) = (0, 0, 0, 8 * (l.length : Int))
  · simp only [Prod.mk.injEq] at a1
    obtain ⟨rfl, rfl, rfl, rfl⟩ := a1
    exact .inl ⟨l, by omega, fun W h => ⟨after_same (Kd.C_below hr h) h0 hl, ref_same (Kd.C_below hr h) hlc hg hl⟩⟩
  · by_cases a2 : (K, F, S, C) = (2, 0, 2 * (l.length : Int), 16 * (l.length : Int))
    · simp only [Prod.mk.injEq] at a2
      obtain ⟨rfl, rfl, rfl, rfl⟩ := a2
      by_cases h5 : l.length = 512
      · exact .inr fun W h => ⟨after_nocap (Kd.C_below hr h) h0 hl hm (by rw [cap_double hcp, decide_eq_false (fun e => e h5)]), ref_big (Kd.C_below hr h) hlc hg h5⟩
      · have h256 : l.length ≤ 256 := by
          have h9 : hN l < 9 := by
            rcases Nat.lt_or_ge (hN l) 9 with h | h
            · exact h
            · exact absurd ((h9_iff hcp).1 (by have := hcp.h9; omega)) h5
          rw [hcp.len]
          exact Nat.pow_le_pow_right (i := hN l) (j := 8) (by omega) (by omega)
        refine .inl ⟨shrL l.sum.toNat (2 * l.length), by rw [shrL_len]; omega, fun W h => ?_⟩
        unfold Yes
        rw [shrL_len]
        exact ⟨after_grow (Kd.C_below hr h) hlc h0 hg h256 (by omega) (by rw [cap_double hcp, decide_eq_true h5]), ref_grow (Kd.C_below hr h) hlc hg h256 (by omega)⟩
    · by_cases a3 : (K, F, S, C) = (3, 0, (m : Int), 4 * (l.length : Int))
      · simp only [Prod.mk.injEq] at a3
        obtain ⟨rfl, rfl, rfl, rfl⟩ := a3
        by_cases h5 : l.length = 4
        · exact .inr fun W h => ⟨after_nocap2 (Kd.C_below hr h) h0 hl hm (by rw [cap_half hcp, decide_eq_false (fun e => e h5)]), ref_small (Kd.C_below hr h) hlc hg hl hm h5⟩
        · have hch : capB (4 * (l.length : Int)) = true := by rw [cap_half hcp, decide_eq_true h5]
          by_cases hs : l.sum ≤ 4 * (l.length : Int)
          · refine .inl ⟨shrL l.sum.toNat m, by rw [shrL_len]; omega, fun W h => ?_⟩
            unfold Yes
            rw [shrL_len]
            exact ⟨after_shrink (Kd.C_below hr h) hlc h0 hg hl hm (by omega) hch hs, ref_shrink (Kd.C_below hr h) hlc hg hl hm h5 (by omega) hs⟩
          · exact .inr fun W h => ⟨after_much (Kd.C_below hr h) hlc h0 hg hl hm (by omega) hch (by omega), ref_much (Kd.C_below hr h) hlc hg hl hm h5 (by omega)⟩
      · have gA : eqB (K, F, S, C) (0, 0, 0, 8 * (l.length : Int)) = false := decide_eq_false a1
        have gG : eqB (K, F, S, C) (2, 0, 2 * (l.length : Int), 16 * (l.length : Int)) = false := decide_eq_false a2
        have gD : eqB (K, F, S, C) (3, 0, (m : Int), 4 * (l.length : Int)) = false := decide_eq_false a3
        have gG2 : eqB (K, F, S, C) (2, 0, 2 * (l.length : Int), 2 * (8 * (l.length : Int))) = false := by rw [show 2 * (8 * (l.length : Int)) = 16 * (l.length : Int) by omega]; exact gG
        by_cases hK : K = 1
        · subst hK
          by_cases hC : C = 8 * (l.length : Int)
          · subst hC
            by_cases hw : winOk l.length F S
            · obtain ⟨f, s, rfl, rfl, hm2, hin, hmod⟩ := hw
              obtain ⟨k0, hk, rfl⟩ := pw_of s hm2
              have hkh : k0 ≤ hN l := by
                rcases Nat.lt_or_ge (hN l) k0 with h | h
                · have h1 := pw_inj h
                  have h2 : l.length = pw (hN l) := hcp.len
                  omega
                · exact h
              refine .inl ⟨spr l f (pw k0), by rw [spr_len hin]; omega, fun W h => ?_⟩
              unfold Yes
              rw [spr_len hin]
              have hwB : winOkB l.length (f : Int) ((pw k0 : Nat) : Int) = true := by
                classical
                unfold winOkB
                exact decide_eq_true ⟨f, pw k0, rfl, rfl, hm2, hin, hmod⟩
              exact ⟨after_win (Kd.C_below hr h) hlc h0 hg hl hwB Nat.one_le_two_pow hin, ref_win (Kd.C_below hr h) hlc hg hcp hkh hin hmod⟩
            · have hwB : winOkB l.length F S = false := by
                classical
                unfold winOkB
                exact decide_eq_false hw
              exact .inr fun W h => ⟨after_no3 (Kd.C_below hr h) h0 hl hm hwB, ref_none3 (Kd.C_below hr h) hlc hg hcp hw⟩
          · have q1 : (C == 8 * (l.length : Int)) = false := beq_eq_false_iff_ne.2 hC
            exact .inr fun W h => ⟨after_no2 (Kd.C_below hr h) h0 hl hm q1, ref_none2 (Kd.C_below hr h) hlc hg hcp q1⟩
        · have q1 : (K == 1) = false := beq_eq_false_iff_ne.2 hK
          exact .inr fun W h => ⟨after_no1 (Kd.C_below hr h) h0 hl hm q1 gA gG2 gD, ref_none1 (Kd.C_below hr h) hlc hg hcp q1 gA gG (by rw [hd]; exact gD)⟩
section
variable {w : World} {A : Option Addr} {c : Nat} {l : List Int} {K F S C : Int}
theorem law_long (hT : Tb w) (h : 600 < l.length) : Calls Tryd.prog 10 #[.slice A l.length c, .agg #[.int .i64 K, .int .i64 F, .int .i64 S, .int .i64 C]] w fun e w' => e = .returned (.bool true) ∧ Below w.heap.size w w' := by
  have HT := Aside0.mk hT
  have HS := Aside0.mk ((Sep.nil w).new_blk #[.int .i64 K, .int .i64 F, .int .i64 S, .int .i64 C] 41)
  clear hT
  go_enter Tryd.func10, Tryd.ntmps10
  have C := Aside0.mk (N4.awake_any _ (Kd.C_below HT.out HS.out.below))
  go_wp2_with fail
  refine C.out.mono ?_
  clear C
  rintro e w9 ⟨rfl, hb⟩
  replace HS := Aside0.mk (HS.out.step hb)
  clear hb
  go_wp2
  go_ret
  exact ⟨rfl, HS.out.below⟩
set_option maxHeartbeats 1000000 in
theorem law_wrong (hr : Kd.C (Kd.int .i64) w A l.length l) (hlc : l.length ≤ c) (hT : Tb w) (h : l.length ≤ 600) (hw : ckE l ≠ 0) : Calls Tryd.prog 10 #[.slice A l.length c, .agg #[.int .i64 K, .int .i64 F, .int .i64 S, .int .i64 C]] w fun e w' => e = .returned (.bool true) ∧ Below w.heap.size w w' := by
  have HT := Aside0.mk hT
  have HR := Aside0.mk hr
  have HLC := Aside0.mk hlc
  have HS := Aside0.mk ((Sep.nil w).new_blk #[.int .i64 K, .int .i64 F, .int .i64 S, .int .i64 C] 41)
  have q1 : (ckE l != 0) = true := bne_iff_ne.2 hw
  have q2 : (ckE l == ckE l) = true := by simp
  have C1 := Aside0.mk (after_wrong (c := c) (Kd.C_below HR.out HS.out.below) hw K F S C)
  clear hT hr hlc
  have HCE := Aside0.mk (fun (w : World) (hr : Kd.C (Kd.int .i64) w A l.length l) => refCheck_any (c := c) hr HLC.out (by omega))
  clear hw
  generalize ckE l = ce at *
  have c0 : (_ : Option Value) = some (.int .i64 K) := (blk_cell (HS.out.blk 0 rfl) 0).trans rfl
  have c1 : (_ : Option Value) = some (.int .i64 F) := (blk_cell (HS.out.blk 0 rfl) 1).trans rfl
  have c2 : (_ : Option Value) = some (.int .i64 S) := (blk_cell (HS.out.blk 0 rfl) 2).trans rfl
  have c3 : (_ : Option Value) = some (.int .i64 C) := (blk_cell (HS.out.blk 0 rfl) 3).trans rfl
  go_enter Tryd.func10, Tryd.ntmps10
  go_wp2_with fail
  refine C1.out.mono ?_
  clear C1 c0 c1 c2 c3
  rintro e w1 ⟨rfl, hb⟩
  replace HS := Aside0.mk (HS.out.step hb)
  clear hb
  have C1 := Aside0.mk (HCE.out _ (Kd.C_below HR.out HS.out.below))
  go_wp2_with fail
  refine C1.out.mono ?_
  clear C1
  rintro e w2 ⟨rfl, hd⟩
  replace HS := Aside0.mk (HS.out.step hd.below)
  clear hd
  have C1 := Aside0.mk (HCE.out _ (Kd.C_below HR.out HS.out.below))
  go_wp2_with fail
  refine C1.out.mono ?_
  clear C1
  rintro e w3 ⟨rfl, hd⟩
  replace HS := Aside0.mk (HS.out.step hd.below)
  clear hd
  have C := Aside0.mk (N4.awake_any _ (Kd.C_below HT.out HS.out.below))
  go_wp2_with fail
  refine C.out.mono ?_
  clear C
  rintro e w9 ⟨rfl, hb⟩
  replace HS := Aside0.mk (HS.out.step hb)
  clear hb
  go_wp2
  go_ret
  exact ⟨rfl, HS.out.below⟩
set_option maxHeartbeats 1000000 in
theorem law_no (hr : Kd.C (Kd.int .i64) w A l.length l) (hlc : l.length ≤ c) (hT : Tb w) (h : l.length ≤ 600) (hw : ckE l = 0) (hb : ∀ W, Below w.heap.size w W → No 40 W A l.length c K F S C ∧ No 41 W A l.length c K F S C) : Calls Tryd.prog 10 #[.slice A l.length c, .agg #[.int .i64 K, .int .i64 F, .int .i64 S, .int .i64 C]] w fun e w' => e = .returned (.bool true) ∧ Below w.heap.size w w' := by
  have HT := Aside0.mk hT
  have HR := Aside0.mk hr
  have HLC := Aside0.mk hlc
  have HB := Aside0.mk hb
  have HS := Aside0.mk ((Sep.nil w).new_blk #[.int .i64 K, .int .i64 F, .int .i64 S, .int .i64 C] 41)
  have C1 := Aside0.mk (HB.out _ HS.out.below).1
  have HCE := Aside0.mk (fun (w : World) (hr : Kd.C (Kd.int .i64) w A l.length l) => refCheck_any (c := c) hr HLC.out (by omega))
  rw [hw] at HCE
  clear hT hr hlc hb hw
  unfold No at C1
  have c0 : (_ : Option Value) = some (.int .i64 K) := (blk_cell (HS.out.blk 0 rfl) 0).trans rfl
  have c1 : (_ : Option Value) = some (.int .i64 F) := (blk_cell (HS.out.blk 0 rfl) 1).trans rfl
  have c2 : (_ : Option Value) = some (.int .i64 S) := (blk_cell (HS.out.blk 0 rfl) 2).trans rfl
  have c3 : (_ : Option Value) = some (.int .i64 C) := (blk_cell (HS.out.blk 0 rfl) 3).trans rfl
  go_enter Tryd.func10, Tryd.ntmps10
  go_wp2_with fail
  refine C1.out.mono ?_
  clear C1 c0 c1 c2 c3
  rintro e w1 ⟨rfl, hb⟩
  replace HS := Aside0.mk (HS.out.step hb)
  clear hb
  have C1 := Aside0.mk (HCE.out _ (Kd.C_below HR.out HS.out.below))
  go_wp2_with fail
  refine C1.out.mono ?_
  clear C1 HCE
  rintro e w2 ⟨rfl, hd⟩
  replace HS := Aside0.mk (HS.out.step hd.below)
  clear hd
  have C1 := Aside0.mk (HB.out _ HS.out.below).2
  unfold No at C1
  have c0 : (_ : Option Value) = some (.int .i64 K) := (blk_cell (HS.out.blk 0 rfl) 0).trans rfl
  have c1 : (_ : Option Value) = some (.int .i64 F) := (blk_cell (HS.out.blk 0 rfl) 1).trans rfl
  have c2 : (_ : Option Value) = some (.int .i64 S) := (blk_cell (HS.out.blk 0 rfl) 2).trans rfl
  have c3 : (_ : Option Value) = some (.int .i64 C) := (blk_cell (HS.out.blk 0 rfl) 3).trans rfl
  go_wp2_with fail
  refine C1.out.mono ?_
  clear C1 c0 c1 c2 c3
  rintro e w3 ⟨rfl, hb⟩
  replace HS := Aside0.mk (HS.out.step hb)
  clear hb
  have CI := Aside0.mk (fun (w : World) => ints_any (w := w) (A0 := none) (A1 := none) (c0 := 0) (c1 := 0) (l := []) (m := []) (n1 := 0) (n2 := 0) (Kd.C_nil _ _) (Nat.le_refl _) (Kd.C_nil _ _) (Nat.le_refl _) (by decide))
  rw [show decide (([] : List Int) = []) = true from decide_eq_true rfl] at CI
  go_wp2_with fail
  refine (CI.out _).mono ?_
  clear CI
  rintro e w4 ⟨rfl, hd⟩
  replace HS := Aside0.mk (HS.out.step hd.below)
  clear hd
  have C := Aside0.mk (N4.awake_any _ (Kd.C_below HT.out HS.out.below))
  go_wp2_with fail
  refine C.out.mono ?_
  clear C
  rintro e w9 ⟨rfl, hb⟩
  replace HS := Aside0.mk (HS.out.step hb)
  clear hb
  go_wp2
  go_ret
  exact ⟨rfl, HS.out.below⟩
set_option maxHeartbeats 1000000 in
theorem law_yes {m : List Int} (hm : m.length ≤ 1024) (hr : Kd.C (Kd.int .i64) w A l.length l) (hlc : l.length ≤ c) (hT : Tb w) (h : l.length ≤ 600) (hw : ckE l = 0) (hb : ∀ W, Below w.heap.size w W → Yes 40 W A l.length c K F S C m ∧ Yes 41 W A l.length c K F S C m) : Calls Tryd.prog 10 #[.slice A l.length c, .agg #[.int .i64 K, .int .i64 F, .int .i64 S, .int .i64 C]] w fun e w' => e = .returned (.bool true) ∧ Below w.heap.size w w' := by
  have HT := Aside0.mk hT
  have HR := Aside0.mk hr
  have HLC := Aside0.mk hlc
  have HB := Aside0.mk hb
  have HS := Aside0.mk ((Sep.nil w).new_blk #[.int .i64 K, .int .i64 F, .int .i64 S, .int .i64 C] 41)
  have C1 := Aside0.mk (HB.out _ HS.out.below).1
  have HCE := Aside0.mk (fun (w : World) (hr : Kd.C (Kd.int .i64) w A l.length l) => refCheck_any (c := c) hr HLC.out (by omega))
  rw [hw] at HCE
  clear hT hr hlc hb hw
  unfold Yes at C1
  have c0 : (_ : Option Value) = some (.int .i64 K) := (blk_cell (HS.out.blk 0 rfl) 0).trans rfl
  have c1 : (_ : Option Value) = some (.int .i64 F) := (blk_cell (HS.out.blk 0 rfl) 1).trans rfl
  have c2 : (_ : Option Value) = some (.int .i64 S) := (blk_cell (HS.out.blk 0 rfl) 2).trans rfl
  have c3 : (_ : Option Value) = some (.int .i64 C) := (blk_cell (HS.out.blk 0 rfl) 3).trans rfl
  go_enter Tryd.func10, Tryd.ntmps10
  go_wp2_with fail
  refine C1.out.mono ?_
  clear C1 c0 c1 c2 c3
  rintro e w1 ⟨A1, c1, rfl, hs⟩
  replace HS := Aside0.mk (HS.out.append hs)
  clear hs
  have C1 := Aside0.mk (HCE.out _ (Kd.C_below HR.out HS.out.below))
  go_wp2_with fail
  refine C1.out.mono ?_
  clear C1 HCE
  rintro e w2 ⟨rfl, hd⟩
  replace HS := Aside0.mk (HS.out.step hd.below)
  clear hd
  have C1 := Aside0.mk (HB.out _ HS.out.below).2
  unfold Yes at C1
  have c0 : (_ : Option Value) = some (.int .i64 K) := (blk_cell (HS.out.blk 0 rfl) 0).trans rfl
  have c1 : (_ : Option Value) = some (.int .i64 F) := (blk_cell (HS.out.blk 0 rfl) 1).trans rfl
  have c2 : (_ : Option Value) = some (.int .i64 S) := (blk_cell (HS.out.blk 0 rfl) 2).trans rfl
  have c3 : (_ : Option Value) = some (.int .i64 C) := (blk_cell (HS.out.blk 0 rfl) 3).trans rfl
  go_wp2_with fail
  refine C1.out.mono ?_
  clear C1 c0 c1 c2 c3
  rintro e w3 ⟨A2, c2, rfl, hs⟩
  replace HS := Aside0.mk (HS.out.append hs)
  clear hs
  have r1 := HS.out.row 1 rfl
  have r2 := HS.out.row 2 rfl
  have CI := ints_any r1.2.2 r1.2.1 r2.2.2 r2.2.1 (by omega)
  rw [show decide (m = m) = true from decide_eq_true rfl] at CI
  have CI := Aside0.mk CI
  clear r1 r2
  go_wp2_with fail
  refine CI.out.mono ?_
  clear CI
  rintro e w4 ⟨rfl, hd⟩
  replace HS := Aside0.mk (HS.out.step hd.below)
  clear hd
  have C := Aside0.mk (N4.awake_any _ (Kd.C_below HT.out HS.out.below))
  go_wp2_with fail
  refine C.out.mono ?_
  clear C
  rintro e w9 ⟨rfl, hb⟩
  replace HS := Aside0.mk (HS.out.step hb)
  clear hb
  go_wp2
  go_ret
  exact ⟨rfl, HS.out.below⟩
end
theorem law (A : Option Addr) (c : Nat) (l : List Int) {W0 : World} (g : Kd.C (Kd.int .i64) W0 A l.length l) (e : l.length ≤ c) (y : l.length * 8 ≤ 140737488351232) (wl : ∀ x ∈ l, (Lit.int .i64 x).wf = true) (K F S C : Int) (W : World) (hT : Tb W) (hW : W = W0 := by rfl) :
    Calls Tryd.prog 10 #[.slice A l.length c, .agg #[.int .i64 K, .int .i64 F, .int .i64 S, .int .i64 C]] W fun e w' => e = .returned (.bool true) ∧ Below W.heap.size W w' := by
  subst hW
  by_cases h1 : 600 < l.length
  · exact law_long hT h1
  · by_cases h2 : ckE l = 0
    · rcases both g e h2 K F S C with ⟨m, hm, hb⟩ | hb
      · exact law_yes hm g e hT (by omega) h2 hb
      · exact law_no g e hT (by omega) h2 hb
    · exact law_wrong g e hT (by omega) h2
end Go.Proofs.YtlaegahdignphaaDoor.O7
