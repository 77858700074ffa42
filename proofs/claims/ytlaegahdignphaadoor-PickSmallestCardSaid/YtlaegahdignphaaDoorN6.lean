/- The law PickSmallest walked: it returns true; whatever the counts and the segment. -/
import Derived.Test.YtlaegahdignphaaDoorN5
namespace Go.Proofs.YtlaegahdignphaaDoor.N6
open Go.RowKit Go.Shelf Go.Proofs.YtlaegahdignphaaDoorW.PrintWords Go.Proofs.YtlaegahdignphaaDoorW.PrintLast Go.Proofs.YtlaegahdignphaaDoorW.PrintMore Q1 Q2 L1 L3 S1 M1 M2 M3 M4 M5 M6 M7 M8 M9 N1 N2 N3 N4 N5 SL SG
set_option linter.unusedVariables false
set_option linter.unusedSimpArgs false

section
variable {w : World} {A : Option Addr} {c : Nat} {l : List Int}
set_option maxRecDepth 100000 in
theorem law_long (hT : Tb w) (s : Int) (h : 600 < l.length) : Calls Tryd.prog 11 #[.slice A l.length c, .int .i64 s] w fun e w' => e = .returned (.bool true) ∧ Below w.heap.size w w' := by
  have HT := Aside0.mk hT
  have HS := Aside0.mk (Sep.nil w)
  clear hT
  go_enter Tryd.func11, Tryd.ntmps11
  have C := Aside0.mk (N4.awake_any _ (Kd.C_below HT.out HS.out.below))
  go_wp2_with fail
  refine C.out.mono ?_
  clear C
  rintro e w9 ⟨rfl, hb⟩
  replace HS := Aside0.mk (HS.out.step hb)
  clear hb
  go_wp2
  go_ret
  exact ⟨rfl, HS.out.below⟩
theorem ck_val (l : List Int) : ckE l = 0 ∨ ckE l = 1 ∨ ckE l = 10 := by
  classical
  unfold ckE
  split
  · split <;> simp
  · simp
theorem wrg_val {l : List Int} {s : Int} : wrg l s ≠ 16 := by
  unfold wrg
  rcases ck_val l with h | h | h
  · rw [if_neg (by rw [h]; decide)]
    split <;> decide
  · rw [if_pos (by rw [h]; decide), h]; decide
  · rw [if_pos (by rw [h]; decide), h]; decide
set_option maxRecDepth 100000 in
set_option maxHeartbeats 1000000 in
theorem law_bad (hr : Kd.C (Kd.int .i64) w A l.length l) (hlc : l.length ≤ c) (hT : Tb w) (s : Int) (h : l.length ≤ 600) (hz : wrg l s ≠ 0) : Calls Tryd.prog 11 #[.slice A l.length c, .int .i64 s] w fun e w' => e = .returned (.bool true) ∧ Below w.heap.size w w' := by
  have C2 := Aside0.mk (pick_bad (c := c) hr s hz)
  have q1 : (wrg l s != 0) = true := bne_iff_ne.2 hz
  have q2 : (wrg l s != 16) = true := bne_iff_ne.2 wrg_val
  have q5 : eqB (0, 0, 0, 0) (0, 0, 0, 0) = true := decide_eq_true rfl
  have HT := Aside0.mk hT
  have HS := Aside0.mk (Sep.nil w)
  have heq := fun w => eqS w
  have hgd := guardS
  clear hz hr hT hlc
  generalize wrg l s = we at *
  unfold step0 at C2
  go_enter Tryd.func11, Tryd.ntmps11
  go_wp2_with fail
  refine C2.out.mono ?_
  clear C2
  rintro e w2 ⟨rfl, hb⟩
  replace HS := Aside0.mk ((HS.out.step hb).new_blk #[.int .i64 0, .int .i64 0, .int .i64 0, .int .i64 0] 41)
  clear hb
  have c0 : (_ : Option Value) = some (.int .i64 0) := (blk_cell (HS.out.blk 0 rfl) 0).trans rfl
  have c1 : (_ : Option Value) = some (.int .i64 0) := (blk_cell (HS.out.blk 0 rfl) 1).trans rfl
  have c2 : (_ : Option Value) = some (.int .i64 0) := (blk_cell (HS.out.blk 0 rfl) 2).trans rfl
  have c3 : (_ : Option Value) = some (.int .i64 0) := (blk_cell (HS.out.blk 0 rfl) 3).trans rfl
  have C := Aside0.mk (N4.awake_any _ (Kd.C_below HT.out HS.out.below))
  go_wp2_with fail
  refine C.out.mono ?_
  clear C
  rintro e w9 ⟨rfl, hb⟩
  replace HS := Aside0.mk (HS.out.step hb)
  clear hb
  go_wp2
  go_ret
  exact ⟨rfl, HS.out.below⟩
theorem root_many {l : List Int} (hcp : Caps l) (hx : withN l.sum (hN l) (hN l) = 1) (h9 : hN l = 9) : l.sum > 2560 := by
  unfold withN at hx
  rw [h9] at hx
  have hm : manyN ((9 : Nat) : Int) ((9 : Nat) : Int) = 23040 := by decide
  rw [hm] at hx
  by_cases h : ((9 : Nat) : Int) * l.sum > 23040
  · omega
  · rw [if_neg h] at hx
    split at hx <;> omega
theorem root_few {l : List Int} (hg : goodL l) (hcp : Caps l) (hx : withN l.sum (hN l) (hN l) < 0) : 2 < hN l := by
  rcases Nat.lt_or_ge 2 (hN l) with h | h
  · exact h
  · have h2 : hN l = 2 := by have := hcp.h2; omega
    have hb := (good_sum hg).1
    unfold withN at hx
    rw [h2] at hx
    have hm : manyN ((2 : Nat) : Int) ((2 : Nat) : Int) = 40 := by decide
    have hf : fewN ((2 : Nat) : Int) ((2 : Nat) : Int) = 0 := by decide
    rw [hm, hf] at hx
    split at hx
    · omega
    · split at hx <;> omega
theorem withN_val (n l h : Int) : withN n l h = 0 ∨ withN n l h = 1 ∨ withN n l h = -1 := by
  unfold withN
  split
  · simp
  · split <;> simp
set_option maxRecDepth 100000 in
set_option maxHeartbeats 8000000 in
theorem law_good (hr : Kd.C (Kd.int .i64) w A l.length l) (hlc : l.length ≤ c) (hT : Tb w) (s : Nat) (hz : wrg l s = 0) : Calls Tryd.prog 11 #[.slice A l.length c, .int .i64 s] w fun e w' => e = .returned (.bool true) ∧ Below w.heap.size w w' := by
  obtain ⟨h0, hc, hg, hcp, t, ht, hs⟩ := wrg_zero hz
  obtain rfl : s = t := by omega
  have hl := hcp.le
  have h9 := hcp.h9
  have h2 := hcp.h2
  have C2 := Aside0.mk (pick_good (c := c) hr hlc hT hz)
  have C3 := Aside0.mk (fun W (hb : Below w.heap.size w W) => height_nat hcp hc (Kd.C_below hT hb))
  have HP := Aside0.mk (show pickN l s = pickN l s from rfl)
  have HCP := Aside0.mk (And.intro hcp hg)
  have HT := Aside0.mk hT
  have HR := Aside0.mk hr
  have HLC := Aside0.mk hlc
  have HS := Aside0.mk (Sep.nil w)
  have heq := fun w => eqS w
  have hgd := guardS
  have hs3 : decide (l.length ≤ s) = false := decide_eq_false (by omega)
  clear hz hr hT hlc h0 hc hg hcp ht
  unfold pickV at C2
  generalize hpn : pickN l s = pn at C2
  obtain ⟨p1, p2, p3, p4, p5⟩ := pn
  have HPN := Aside0.mk hpn
  have he5 : p5 = 0 ∨ p5 = 16 := by
    unfold pickN at hpn
    split at hpn
    · simp only [Prod.mk.injEq] at hpn; omega
    · split at hpn
      · simp only [Prod.mk.injEq] at hpn; omega
      · split at hpn <;> (simp only [Prod.mk.injEq] at hpn; omega)
  clear hpn HP
  dsimp only at C2
  have HE : Aside0 (p5 = 0 ∨ p5 = 16) := ⟨he5⟩
  have q0 : (p5 != 0) = false ∨ ((p5 != 0) = true ∧ (p5 != 16) = false) := by
    rcases he5 with e | e
    · exact .inl (by rw [e]; rfl)
    · exact .inr ⟨by rw [e]; rfl, by rw [e]; rfl⟩
  clear he5
  rcases q0 with q0 | ⟨q0, q00⟩
  · go_enter Tryd.func11, Tryd.ntmps11
    go_wp2_with fail
    refine C2.out.mono ?_
    clear C2
    rintro e w2 ⟨rfl, hb⟩
    replace HS := Aside0.mk ((HS.out.step hb).new_blk #[.int .i64 p1, .int .i64 p2, .int .i64 p3, .int .i64 p4] 41)
    clear hb
    have C := Aside0.mk (C3.out _ HS.out.below)
    go_wp2_with fail
    refine C.out.mono ?_
    clear C C3
    rintro e w3 ⟨rfl, hd⟩
    replace HS := Aside0.mk (HS.out.step hd.below)
    clear hd
    go_wp2
    go_loopg [9] (hN l + 1) (fun kq v9 W => ∃ k : Nat, v9 = .int .i64 k ∧ k ≤ hN l ∧ Aside0 (hN l + 1 - k ≤ kq) ∧ Aside0 (∀ j, j < k → okW l s j = false) ∧ Aside0 (Sep w W [Blk w2.heap.size #[.int .i64 p1, .int .i64 p2, .int .i64 p3, .int .i64 p4] 41]))
    case atStart => exact ⟨0, rfl, by omega, ⟨by omega⟩, ⟨fun j hj => by omega⟩, HS⟩
    case round =>
      clear HS
      obtain ⟨k, rfl, hk, HQ, HJ, HS⟩ := hrel
      have hwl := wF_in HCP.out.1 hs hk
      have hpw : 1 ≤ pw k := Nat.one_le_two_pow
      obtain ⟨A9, hmid, hR9, HC9⟩ := mid_nat (A := A) hwl HLC.out
      have HM := Aside0.mk (And.intro hR9 HC9)
      have CW := Aside0.mk (fun w => window_nat (s := s) (k := k) (by omega) (by omega) w)
      have CT := Aside0.mk (fun W (h : Kd.C (Kd.int .i64) W A9 (pw k) ((l.drop (wF s k)).take (pw k))) => total_any h HC9 (good_take (good_drop HCP.out.2 (wF s k)) (pw k)) (by simp; omega))
      have CI := Aside0.mk (fun w => within_nat HCP.out.2 HCP.out.1 (f := wF s k) (n := pw k) hk w)
      rw [show ((l.drop (wF s k)).take (pw k)).sum = sumW l (wF s k) (pw k) from rfl] at CT
      have i1 : ((wF s k : Nat) : Int) ≤ ((wF s k : Nat) : Int) + ((pw k : Nat) : Int) := by omega
      have EO : Aside0 ((withN (sumW l (wF s k) (pw k)) (k : Int) (hN l : Int) == 0) = okW l s k) := ⟨rfl⟩
      have EF : Aside0 (k = hN l → withN (sumW l (wF s k) (pw k)) (k : Int) (hN l : Int) = withN l.sum (hN l) (hN l)) := ⟨fun e => by
        subst e
        have e1 : wF s (hN l) = 0 := by
          unfold wF
          rw [Nat.mod_eq_of_lt (by rw [← HCP.out.1.len]; exact hs)]
          omega
        have e2 : sumW l 0 (pw (hN l)) = l.sum := by
          unfold pw
          rw [← HCP.out.1.len]
          simp [sumW]
        rw [e1, e2]⟩
      have EV := Aside0.mk (withN_val (sumW l (wF s k) (pw k)) (k : Int) (hN l : Int))
      clear hR9 HC9
      obtain ⟨f, hf⟩ : ∃ f, wF s k = f := ⟨_, rfl⟩
      obtain ⟨m, hm⟩ : ∃ m, pw k = m := ⟨_, rfl⟩
      simp only [hf, hm] at hwl hpw hmid HM CW CT CI i1 EO EF EV
      have HFM := Aside0.mk (And.intro hf hm)
      clear hf hm
      generalize sumW l f m = sm at *
      generalize withN sm (k : Int) (hN l : Int) = x at *
      go_wp2_with fail
      refine (CW.out _).mono ?_
      clear CW
      rintro e w4 ⟨rfl, hd⟩
      replace HS := Aside0.mk (HS.out.step hd.below)
      clear hd
      have C := Aside0.mk (CT.out _ (HM.out.1 _ (Kd.C_below HR.out HS.out.below)))
      go_wp2_with fail
      refine C.out.mono ?_
      clear C CT
      rintro e w5 ⟨rfl, hd⟩
      replace HS := Aside0.mk (HS.out.step hd.below)
      clear hd
      go_wp2_with fail
      refine (CI.out _).mono ?_
      clear CI hmid
      rintro e w6 ⟨rfl, hd⟩
      replace HS := Aside0.mk (HS.out.step hd.below)
      clear hd
      have c0 : (_ : Option Value) = some (.int .i64 p1) := (blk_cell (HS.out.blk 0 rfl) 0).trans rfl
      have c1 : (_ : Option Value) = some (.int .i64 p2) := (blk_cell (HS.out.blk 0 rfl) 1).trans rfl
      have c2 : (_ : Option Value) = some (.int .i64 p3) := (blk_cell (HS.out.blk 0 rfl) 2).trans rfl
      have c3 : (_ : Option Value) = some (.int .i64 p4) := (blk_cell (HS.out.blk 0 rfl) 3).trans rfl
      by_cases hx : x = 0
      · have hlv : lvl l s = some k := lvl_some hk (by rw [← EO.out, hx]; rfl) HJ.out
        have hpn := HPN.out
        unfold pickN at hpn
        rw [hlv] at hpn
        simp only [Prod.mk.injEq, HFM.out.1, HFM.out.2] at hpn
        obtain ⟨rfl, rfl, rfl, rfl, rfl⟩ := hpn
        have g1 : eqB (1, (f : Int), (m : Int), 8 * (l.length : Int)) (1, (f : Int), (m : Int), 8 * (l.length : Int)) = true := decide_eq_true rfl
        subst hx
        clear hlv
        have C := Aside0.mk (N4.awake_any _ (Kd.C_below HT.out HS.out.below))
        go_wp2_with fail
        refine C.out.mono ?_
        clear C
        rintro e w9 ⟨rfl, hb⟩
        replace HS := Aside0.mk (HS.out.step hb)
        clear hb
        go_wp2
        (try rw [Exit.noGoto_ret])
        go_ret
        exact ⟨rfl, HS.out.below⟩
      · have hx0 : (x == 0) = false := beq_eq_false_iff_ne.2 hx
        by_cases hkl : k < hN l
        · have HJ2 : Aside0 (∀ j, j < k + 1 → okW l s j = false) := ⟨fun j hj => by
            by_cases e : j = k
            · rw [e, ← EO.out]; exact hx0
            · exact HJ.out j (by omega)⟩
          clear c0 c1 c2 c3 hx
          go_wp2
          go_roundg (hN l - k)
          case measure => have := HQ.out; omega
          case rel => exact ⟨k + 1, by go_num, by omega, ⟨by omega⟩, HJ2, HS⟩
        · have hkh : k = hN l := by omega
          have hlv : lvl l s = none := lvl_none fun j hj => by
            by_cases e : j = k
            · rw [e, ← EO.out]; exact hx0
            · exact HJ.out j (by omega)
          have hpn := HPN.out
          have ex := EF.out hkh
          unfold pickN at hpn
          rw [hlv] at hpn
          dsimp only at hpn
          rw [← ex] at hpn
          by_cases hx1 : x > 0
          · rw [if_neg (by omega)] at hpn
            by_cases hl5 : l.length = 512
            · rw [if_pos hl5] at hpn
              simp only [Prod.mk.injEq] at hpn
              obtain ⟨rfl, rfl, rfl, rfl, rfl⟩ := hpn
              have h99 : hN l = 9 := by have := (h9_iff HCP.out.1).2 hl5; omega
              have hsm := root_many HCP.out.1 (by rw [← ex]; have := EV.out; omega) h99
              have CT2 := Aside0.mk (total_any (Kd.C_below HR.out HS.out.below) HLC.out HCP.out.2 (by omega))
              have g1 : eqB (0, 0, 0, 0) (0, 0, 0, 0) = true := decide_eq_true rfl
              have hnn : (hN l : Int) = 9 := by omega
              have g2 : ((hN l : Int) == 9) = true := beq_iff_eq.2 hnn
              clear hlv hl5 ex hx hnn h99 hkh
              exact absurd q0 (by decide)
            · rw [if_neg hl5] at hpn
              simp only [Prod.mk.injEq] at hpn
              obtain ⟨rfl, rfl, rfl, rfl, rfl⟩ := hpn
              have g1 : eqB (2, 0, 2 * (l.length : Int), 16 * (l.length : Int)) (2, 0, 2 * (l.length : Int), 16 * (l.length : Int)) = true := decide_eq_true rfl
              have g2 : ((hN l : Int) == 9) = false := beq_eq_false_iff_ne.2 fun e => hl5 ((h9_iff HCP.out.1).1 e)
              clear hlv hl5 ex hx hkh
              have C := Aside0.mk (N4.awake_any _ (Kd.C_below HT.out HS.out.below))
              go_wp2_with fail
              refine C.out.mono ?_
              clear C
              rintro e w9 ⟨rfl, hb⟩
              replace HS := Aside0.mk (HS.out.step hb)
              clear hb
              go_wp2
              (try rw [Exit.noGoto_ret])
              go_ret
              exact ⟨rfl, HS.out.below⟩
          · have hx2 : x < 0 := by omega
            rw [if_pos hx2] at hpn
            simp only [Prod.mk.injEq] at hpn
            obtain ⟨rfl, rfl, rfl, rfl, rfl⟩ := hpn
            have hh := root_few HCP.out.2 HCP.out.1 (by rw [← ex]; exact hx2)
            have e1 : ((l.length : Int)).tdiv 2 = ((l.length / 2 : Nat) : Int) := by rw [Int.tdiv_eq_ediv_of_nonneg (by omega)]; omega
            obtain ⟨d, hd⟩ : ∃ d, l.length / 2 = d := ⟨_, rfl⟩
            have hd2 : d ≤ 512 := by omega
            rw [hd] at e1 c2
            clear hd
            have g1 : eqB (3, 0, (d : Int), 4 * (l.length : Int)) (3, 0, (d : Int), 4 * (l.length : Int)) = true := decide_eq_true rfl
            clear hlv ex hx hkh
            have C := Aside0.mk (N4.awake_any _ (Kd.C_below HT.out HS.out.below))
            go_wp2_with fail
            refine C.out.mono ?_
            clear C
            rintro e w9 ⟨rfl, hb⟩
            replace HS := Aside0.mk (HS.out.step hb)
            clear hb
            go_wp2
            (try rw [Exit.noGoto_ret])
            go_ret
            exact ⟨rfl, HS.out.below⟩
  · go_enter Tryd.func11, Tryd.ntmps11
    go_wp2_with fail
    refine C2.out.mono ?_
    clear C2
    rintro e w2 ⟨rfl, hb⟩
    replace HS := Aside0.mk ((HS.out.step hb).new_blk #[.int .i64 p1, .int .i64 p2, .int .i64 p3, .int .i64 p4] 41)
    clear hb
    have C := Aside0.mk (C3.out _ HS.out.below)
    go_wp2_with fail
    refine C.out.mono ?_
    clear C C3
    rintro e w3 ⟨rfl, hd⟩
    replace HS := Aside0.mk (HS.out.step hd.below)
    clear hd
    go_wp2
    go_loopg [9] (hN l + 1) (fun kq v9 W => ∃ k : Nat, v9 = .int .i64 k ∧ k ≤ hN l ∧ Aside0 (hN l + 1 - k ≤ kq) ∧ Aside0 (∀ j, j < k → okW l s j = false) ∧ Aside0 (Sep w W [Blk w2.heap.size #[.int .i64 p1, .int .i64 p2, .int .i64 p3, .int .i64 p4] 41]))
    case atStart => exact ⟨0, rfl, by omega, ⟨by omega⟩, ⟨fun j hj => by omega⟩, HS⟩
    case round =>
      clear HS
      obtain ⟨k, rfl, hk, HQ, HJ, HS⟩ := hrel
      have hwl := wF_in HCP.out.1 hs hk
      have hpw : 1 ≤ pw k := Nat.one_le_two_pow
      obtain ⟨A9, hmid, hR9, HC9⟩ := mid_nat (A := A) hwl HLC.out
      have HM := Aside0.mk (And.intro hR9 HC9)
      have CW := Aside0.mk (fun w => window_nat (s := s) (k := k) (by omega) (by omega) w)
      have CT := Aside0.mk (fun W (h : Kd.C (Kd.int .i64) W A9 (pw k) ((l.drop (wF s k)).take (pw k))) => total_any h HC9 (good_take (good_drop HCP.out.2 (wF s k)) (pw k)) (by simp; omega))
      have CI := Aside0.mk (fun w => within_nat HCP.out.2 HCP.out.1 (f := wF s k) (n := pw k) hk w)
      rw [show ((l.drop (wF s k)).take (pw k)).sum = sumW l (wF s k) (pw k) from rfl] at CT
      have i1 : ((wF s k : Nat) : Int) ≤ ((wF s k : Nat) : Int) + ((pw k : Nat) : Int) := by omega
      have EO : Aside0 ((withN (sumW l (wF s k) (pw k)) (k : Int) (hN l : Int) == 0) = okW l s k) := ⟨rfl⟩
      have EF : Aside0 (k = hN l → withN (sumW l (wF s k) (pw k)) (k : Int) (hN l : Int) = withN l.sum (hN l) (hN l)) := ⟨fun e => by
        subst e
        have e1 : wF s (hN l) = 0 := by
          unfold wF
          rw [Nat.mod_eq_of_lt (by rw [← HCP.out.1.len]; exact hs)]
          omega
        have e2 : sumW l 0 (pw (hN l)) = l.sum := by
          unfold pw
          rw [← HCP.out.1.len]
          simp [sumW]
        rw [e1, e2]⟩
      have EV := Aside0.mk (withN_val (sumW l (wF s k) (pw k)) (k : Int) (hN l : Int))
      clear hR9 HC9
      obtain ⟨f, hf⟩ : ∃ f, wF s k = f := ⟨_, rfl⟩
      obtain ⟨m, hm⟩ : ∃ m, pw k = m := ⟨_, rfl⟩
      simp only [hf, hm] at hwl hpw hmid HM CW CT CI i1 EO EF EV
      have HFM := Aside0.mk (And.intro hf hm)
      clear hf hm
      generalize sumW l f m = sm at *
      generalize withN sm (k : Int) (hN l : Int) = x at *
      go_wp2_with fail
      refine (CW.out _).mono ?_
      clear CW
      rintro e w4 ⟨rfl, hd⟩
      replace HS := Aside0.mk (HS.out.step hd.below)
      clear hd
      have C := Aside0.mk (CT.out _ (HM.out.1 _ (Kd.C_below HR.out HS.out.below)))
      go_wp2_with fail
      refine C.out.mono ?_
      clear C CT
      rintro e w5 ⟨rfl, hd⟩
      replace HS := Aside0.mk (HS.out.step hd.below)
      clear hd
      go_wp2_with fail
      refine (CI.out _).mono ?_
      clear CI hmid
      rintro e w6 ⟨rfl, hd⟩
      replace HS := Aside0.mk (HS.out.step hd.below)
      clear hd
      have c0 : (_ : Option Value) = some (.int .i64 p1) := (blk_cell (HS.out.blk 0 rfl) 0).trans rfl
      have c1 : (_ : Option Value) = some (.int .i64 p2) := (blk_cell (HS.out.blk 0 rfl) 1).trans rfl
      have c2 : (_ : Option Value) = some (.int .i64 p3) := (blk_cell (HS.out.blk 0 rfl) 2).trans rfl
      have c3 : (_ : Option Value) = some (.int .i64 p4) := (blk_cell (HS.out.blk 0 rfl) 3).trans rfl
      by_cases hx : x = 0
      · have hlv : lvl l s = some k := lvl_some hk (by rw [← EO.out, hx]; rfl) HJ.out
        have hpn := HPN.out
        unfold pickN at hpn
        rw [hlv] at hpn
        simp only [Prod.mk.injEq, HFM.out.1, HFM.out.2] at hpn
        obtain ⟨rfl, rfl, rfl, rfl, rfl⟩ := hpn
        have g1 : eqB (1, (f : Int), (m : Int), 8 * (l.length : Int)) (1, (f : Int), (m : Int), 8 * (l.length : Int)) = true := decide_eq_true rfl
        subst hx
        clear hlv
        exact absurd q0 (by decide)
      · have hx0 : (x == 0) = false := beq_eq_false_iff_ne.2 hx
        by_cases hkl : k < hN l
        · have HJ2 : Aside0 (∀ j, j < k + 1 → okW l s j = false) := ⟨fun j hj => by
            by_cases e : j = k
            · rw [e, ← EO.out]; exact hx0
            · exact HJ.out j (by omega)⟩
          clear c0 c1 c2 c3 hx
          go_wp2
          go_roundg (hN l - k)
          case measure => have := HQ.out; omega
          case rel => exact ⟨k + 1, by go_num, by omega, ⟨by omega⟩, HJ2, HS⟩
        · have hkh : k = hN l := by omega
          have hlv : lvl l s = none := lvl_none fun j hj => by
            by_cases e : j = k
            · rw [e, ← EO.out]; exact hx0
            · exact HJ.out j (by omega)
          have hpn := HPN.out
          have ex := EF.out hkh
          unfold pickN at hpn
          rw [hlv] at hpn
          dsimp only at hpn
          rw [← ex] at hpn
          by_cases hx1 : x > 0
          · rw [if_neg (by omega)] at hpn
            by_cases hl5 : l.length = 512
            · rw [if_pos hl5] at hpn
              simp only [Prod.mk.injEq] at hpn
              obtain ⟨rfl, rfl, rfl, rfl, rfl⟩ := hpn
              have h99 : hN l = 9 := by have := (h9_iff HCP.out.1).2 hl5; omega
              have hsm := root_many HCP.out.1 (by rw [← ex]; have := EV.out; omega) h99
              have CT2 := Aside0.mk (total_any (Kd.C_below HR.out HS.out.below) HLC.out HCP.out.2 (by omega))
              have g1 : eqB (0, 0, 0, 0) (0, 0, 0, 0) = true := decide_eq_true rfl
              have hnn : (hN l : Int) = 9 := by omega
              have g2 : ((hN l : Int) == 9) = true := beq_iff_eq.2 hnn
              clear hlv hl5 ex hx hnn h99 hkh
              go_wp2_with fail
              refine CT2.out.mono ?_
              clear CT2 c0 c1 c2 c3
              rintro e w7 ⟨rfl, hd⟩
              replace HS := Aside0.mk (HS.out.step hd.below)
              clear hd
              have C := Aside0.mk (N4.awake_any _ (Kd.C_below HT.out HS.out.below))
              go_wp2_with fail
              refine C.out.mono ?_
              clear C
              rintro e w9 ⟨rfl, hb⟩
              replace HS := Aside0.mk (HS.out.step hb)
              clear hb
              go_wp2
              (try rw [Exit.noGoto_ret])
              go_ret
              exact ⟨rfl, HS.out.below⟩
            · rw [if_neg hl5] at hpn
              simp only [Prod.mk.injEq] at hpn
              obtain ⟨rfl, rfl, rfl, rfl, rfl⟩ := hpn
              have g1 : eqB (2, 0, 2 * (l.length : Int), 16 * (l.length : Int)) (2, 0, 2 * (l.length : Int), 16 * (l.length : Int)) = true := decide_eq_true rfl
              have g2 : ((hN l : Int) == 9) = false := beq_eq_false_iff_ne.2 fun e => hl5 ((h9_iff HCP.out.1).1 e)
              clear hlv hl5 ex hx hkh
              exact absurd q0 (by decide)
          · have hx2 : x < 0 := by omega
            rw [if_pos hx2] at hpn
            simp only [Prod.mk.injEq] at hpn
            obtain ⟨rfl, rfl, rfl, rfl, rfl⟩ := hpn
            have hh := root_few HCP.out.2 HCP.out.1 (by rw [← ex]; exact hx2)
            have e1 : ((l.length : Int)).tdiv 2 = ((l.length / 2 : Nat) : Int) := by rw [Int.tdiv_eq_ediv_of_nonneg (by omega)]; omega
            obtain ⟨d, hd⟩ : ∃ d, l.length / 2 = d := ⟨_, rfl⟩
            have hd2 : d ≤ 512 := by omega
            rw [hd] at e1 c2
            clear hd
            have g1 : eqB (3, 0, (d : Int), 4 * (l.length : Int)) (3, 0, (d : Int), 4 * (l.length : Int)) = true := decide_eq_true rfl
            clear hlv ex hx hkh
            exact absurd q0 (by decide)
end
theorem law (A : Option Addr) (c : Nat) (l : List Int) {W0 : World} (g : Kd.C (Kd.int .i64) W0 A l.length l) (e : l.length ≤ c) (y : l.length * 8 ≤ 140737488351232) (wl : ∀ x ∈ l, (Lit.int .i64 x).wf = true) (s : Int) (ws : (Lit.int .i64 s).wf = true) (W : World) (hT : Tb W) (hW : W = W0 := by rfl) :
    Calls Tryd.prog 11 #[.slice A l.length c, .int .i64 s] W fun e w' => e = .returned (.bool true) ∧ Below W.heap.size W w' := by
  subst hW
  by_cases h1 : 600 < l.length
  · exact law_long hT s h1
  · by_cases h2 : wrg l s = 0
    · obtain ⟨_, _, _, _, t, rfl, _⟩ := wrg_zero h2
      exact law_good g e hT t h2
    · exact law_bad g e hT s (by omega) h2
end Go.Proofs.YtlaegahdignphaaDoor.N6
