/- The document's counts behind a step, walked: windows. -/
import Derived.Test.YtlaegahdignphaaDoorO5
namespace Go.Proofs.YtlaegahdignphaaDoor.O6
open Go.RowKit Go.Shelf Go.Proofs.YtlaegahdignphaaDoorW.PrintWords Go.Proofs.YtlaegahdignphaaDoorW.PrintLast Go.Proofs.YtlaegahdignphaaDoorW.PrintMore Q1 Q2 L1 L3 S1 M1 M2 M3 M4 M7 M8 M9 N1 N2 N7 O4 O5 SL SG
set_option linter.unusedVariables false
set_option linter.unusedSimpArgs false

theorem pw_mono {j k : Nat} (h : j ≤ k) : pw j ≤ pw k := Nat.pow_le_pow_right (by omega) h
theorem pw_inj {j k : Nat} (h : j < k) : pw j < pw k := Nat.pow_lt_pow_right (by omega) h
/-- A round's power, and whether it is one of the array. -/
theorem pw_facts {l : List Int} (hcp : Caps l) {k : Nat} (hk : k ≤ hN l + 1) : (∀ w, Calls Tryd.prog 22 #[.int .i64 k] w fun e w' => e = .returned (.int .i64 (pw k : Nat)) ∧ Drawn0 w w') ∧ (k ≤ hN l → pw k ≤ l.length) ∧ (k = hN l + 1 → l.length < pw k) ∧ 1 ≤ pw k := by
  have h9 := hcp.h9
  have e : l.length = pw (hN l) := hcp.len
  exact ⟨fun w => power_nat (by omega) w, fun h => by rw [e]; exact pw_mono h, fun h => by rw [e, h]; exact pw_inj (by omega), Nat.one_le_two_pow⟩
section
variable {w : World} {A : Option Addr} {c : Nat} {l : List Int}
set_option maxRecDepth 100000 in
set_option maxHeartbeats 4000000 in
theorem ref_none1 (hr : Kd.C (Kd.int .i64) w A l.length l) (hlc : l.length ≤ c) (hg : goodL l) (hcp : Caps l) {K F S C : Int} (q1 : (K == 1) = false)
    (gA : eqB (K, F, S, C) (0, 0, 0, 8 * (l.length : Int)) = false) (gG : eqB (K, F, S, C) (2, 0, 2 * (l.length : Int), 16 * (l.length : Int)) = false) (gD : eqB (K, F, S, C) (3, 0, ((l.length / 2 : Nat) : Int), 4 * (l.length : Int)) = false) :
    Calls Tryd.prog 41 #[.slice A l.length c, .agg #[.int .i64 K, .int .i64 F, .int .i64 S, .int .i64 C]] w fun e w' => e = .returned (.tuple #[.slice none 0 0, .int .i64 1]) ∧ Below w.heap.size w w' := by
  have hs0 := (Sep.nil w).new_blk #[.int .i64 K, .int .i64 F, .int .i64 S, .int .i64 C] 41
  have HS := Aside0.mk hs0
  have HR := Aside0.mk hr
  have HLC := Aside0.mk hlc
  have HG := Aside0.mk hg
  have CK := Aside0.mk (refSum_0 (c := c) (Kd.C_below hr hs0.below) hlc hg (by have := hcp.le; omega))
  have heq := fun w => eqS w
  have hgd := guardS
  have hl := hcp.le
  have HCP := Aside0.mk hcp
  obtain ⟨m, hm⟩ : ∃ m, l.length = 2 * m := ⟨2 ^ (hN l - 1), by rw [hcp.len, ← Nat.pow_succ']; congr 1; have := hcp.h2; omega⟩
  have e1 : ((l.length : Int)).tdiv 2 = m := by rw [Int.tdiv_eq_ediv_of_nonneg (by omega)]; omega
  have hm2 : m ≤ 256 := by omega
  rw [show ((l.length / 2 : Nat) : Int) = (m : Int) by omega] at gD
  clear hr hs0 hlc hg hcp hm
  go_enter Tryd.func41, Tryd.ntmps41
  go_wp2_with fail
  refine CK.out.mono ?_
  clear CK
  rintro e w1 ⟨rfl, hd⟩
  replace HS := Aside0.mk (HS.out.step hd.below)
  clear hd
  have c0 : (_ : Option Value) = some (.int .i64 K) := (blk_cell (HS.out.blk 0 rfl) 0).trans rfl
  have c1 : (_ : Option Value) = some (.int .i64 F) := (blk_cell (HS.out.blk 0 rfl) 1).trans rfl
  have c2 : (_ : Option Value) = some (.int .i64 S) := (blk_cell (HS.out.blk 0 rfl) 2).trans rfl
  have c3 : (_ : Option Value) = some (.int .i64 C) := (blk_cell (HS.out.blk 0 rfl) 3).trans rfl
  go_wp2
  clear c0 c1 c2 c3
  have HJ : Aside0 True := ⟨trivial⟩
  go_loopg [8] (hN l + 2) (fun kq v8 W => ∃ k : Nat, v8 = .int .i64 k ∧ k ≤ hN l + 1 ∧ Aside0 (hN l + 1 - k ≤ kq) ∧ Aside0 True ∧ Aside0 (Sep w W [Blk w.heap.size #[.int .i64 K, .int .i64 F, .int .i64 S, .int .i64 C] 41]))
  case atStart => exact ⟨0, rfl, by omega, ⟨by omega⟩, ⟨trivial⟩, HS⟩
  case round =>
    clear HS HJ
    obtain ⟨k, rfl, hk, HQ, HJ, HS⟩ := hrel
    have HF := Aside0.mk (pw_facts HCP.out hk)
    obtain ⟨p, hp⟩ : ∃ p, pw k = p := ⟨_, rfl⟩
    rw [hp] at HF
    have HPW := Aside0.mk hp
    clear hp
    go_wp2_with fail
    refine (HF.out.1 _).mono ?_
    rintro e w3 ⟨rfl, hd⟩
    replace HS := Aside0.mk (HS.out.step hd.below)
    clear hd
    by_cases hkh : k ≤ hN l
    · have hle := HF.out.2.1 (by omega)
      have hle2 : (p : Int) ≤ (l.length : Int) := by omega
      have hp1 := HF.out.2.2.2
      have hkb : k ≤ 9 := by have := HCP.out.h9; omega
      go_wp2_with fail
      refine (HF.out.1 _).mono ?_
      rintro e w4 ⟨rfl, hd⟩
      replace HS := Aside0.mk (HS.out.step hd.below)
      clear hd
      have c0 : (_ : Option Value) = some (.int .i64 K) := (blk_cell (HS.out.blk 0 rfl) 0).trans rfl
      have c1 : (_ : Option Value) = some (.int .i64 F) := (blk_cell (HS.out.blk 0 rfl) 1).trans rfl
      have c2 : (_ : Option Value) = some (.int .i64 S) := (blk_cell (HS.out.blk 0 rfl) 2).trans rfl
      have c3 : (_ : Option Value) = some (.int .i64 C) := (blk_cell (HS.out.blk 0 rfl) 3).trans rfl
      go_wp2
      go_roundg (hN l - k)
      case measure => have := HQ.out; omega
      case rel => exact ⟨k + 1, by go_num, by omega, ⟨by omega⟩, HJ, HS⟩
    · have hkk : k = hN l + 1 := by omega
      have hlt := HF.out.2.2.1 hkk
      have hlt2 : ¬ (p : Int) ≤ (l.length : Int) := by omega
      go_wp2
      go_ret2
      exact ⟨rfl, HS.out.below⟩
set_option maxRecDepth 100000 in
set_option maxHeartbeats 4000000 in
theorem ref_none2 (hr : Kd.C (Kd.int .i64) w A l.length l) (hlc : l.length ≤ c) (hg : goodL l) (hcp : Caps l) {F S C : Int} (q1 : (C == 8 * (l.length : Int)) = false) :
    Calls Tryd.prog 41 #[.slice A l.length c, .agg #[.int .i64 1, .int .i64 F, .int .i64 S, .int .i64 C]] w fun e w' => e = .returned (.tuple #[.slice none 0 0, .int .i64 1]) ∧ Below w.heap.size w w' := by
  have gA : eqB (1, F, S, C) (0, 0, 0, 8 * (l.length : Int)) = false := decide_eq_false (by simp)
  have gG : eqB (1, F, S, C) (2, 0, 2 * (l.length : Int), 16 * (l.length : Int)) = false := decide_eq_false (by simp)
  have gD : eqB (1, F, S, C) (3, 0, ((l.length / 2 : Nat) : Int), 4 * (l.length : Int)) = false := decide_eq_false (by simp)
  have hs0 := (Sep.nil w).new_blk #[.int .i64 1, .int .i64 F, .int .i64 S, .int .i64 C] 41
  have HS := Aside0.mk hs0
  have HR := Aside0.mk hr
  have HLC := Aside0.mk hlc
  have HG := Aside0.mk hg
  have CK := Aside0.mk (refSum_0 (c := c) (Kd.C_below hr hs0.below) hlc hg (by have := hcp.le; omega))
  have heq := fun w => eqS w
  have hgd := guardS
  have hl := hcp.le
  have HCP := Aside0.mk hcp
  obtain ⟨m, hm⟩ : ∃ m, l.length = 2 * m := ⟨2 ^ (hN l - 1), by rw [hcp.len, ← Nat.pow_succ']; congr 1; have := hcp.h2; omega⟩
  have e1 : ((l.length : Int)).tdiv 2 = m := by rw [Int.tdiv_eq_ediv_of_nonneg (by omega)]; omega
  have hm2 : m ≤ 256 := by omega
  rw [show ((l.length / 2 : Nat) : Int) = (m : Int) by omega] at gD
  clear hr hs0 hlc hg hcp hm
  go_enter Tryd.func41, Tryd.ntmps41
  go_wp2_with fail
  refine CK.out.mono ?_
  clear CK
  rintro e w1 ⟨rfl, hd⟩
  replace HS := Aside0.mk (HS.out.step hd.below)
  clear hd
  have c0 : (_ : Option Value) = some (.int .i64 1) := (blk_cell (HS.out.blk 0 rfl) 0).trans rfl
  have c1 : (_ : Option Value) = some (.int .i64 F) := (blk_cell (HS.out.blk 0 rfl) 1).trans rfl
  have c2 : (_ : Option Value) = some (.int .i64 S) := (blk_cell (HS.out.blk 0 rfl) 2).trans rfl
  have c3 : (_ : Option Value) = some (.int .i64 C) := (blk_cell (HS.out.blk 0 rfl) 3).trans rfl
  go_wp2
  clear c0 c1 c2 c3
  have HJ : Aside0 True := ⟨trivial⟩
  go_loopg [8] (hN l + 2) (fun kq v8 W => ∃ k : Nat, v8 = .int .i64 k ∧ k ≤ hN l + 1 ∧ Aside0 (hN l + 1 - k ≤ kq) ∧ Aside0 True ∧ Aside0 (Sep w W [Blk w.heap.size #[.int .i64 1, .int .i64 F, .int .i64 S, .int .i64 C] 41]))
  case atStart => exact ⟨0, rfl, by omega, ⟨by omega⟩, ⟨trivial⟩, HS⟩
  case round =>
    clear HS HJ
    obtain ⟨k, rfl, hk, HQ, HJ, HS⟩ := hrel
    have HF := Aside0.mk (pw_facts HCP.out hk)
    obtain ⟨p, hp⟩ : ∃ p, pw k = p := ⟨_, rfl⟩
    rw [hp] at HF
    have HPW := Aside0.mk hp
    clear hp
    go_wp2_with fail
    refine (HF.out.1 _).mono ?_
    rintro e w3 ⟨rfl, hd⟩
    replace HS := Aside0.mk (HS.out.step hd.below)
    clear hd
    by_cases hkh : k ≤ hN l
    · have hle := HF.out.2.1 (by omega)
      have hle2 : (p : Int) ≤ (l.length : Int) := by omega
      have hp1 := HF.out.2.2.2
      have hkb : k ≤ 9 := by have := HCP.out.h9; omega
      go_wp2_with fail
      refine (HF.out.1 _).mono ?_
      rintro e w4 ⟨rfl, hd⟩
      replace HS := Aside0.mk (HS.out.step hd.below)
      clear hd
      have c0 : (_ : Option Value) = some (.int .i64 1) := (blk_cell (HS.out.blk 0 rfl) 0).trans rfl
      have c1 : (_ : Option Value) = some (.int .i64 F) := (blk_cell (HS.out.blk 0 rfl) 1).trans rfl
      have c2 : (_ : Option Value) = some (.int .i64 S) := (blk_cell (HS.out.blk 0 rfl) 2).trans rfl
      have c3 : (_ : Option Value) = some (.int .i64 C) := (blk_cell (HS.out.blk 0 rfl) 3).trans rfl
      go_wp2
      go_roundg (hN l - k)
      case measure => have := HQ.out; omega
      case rel => exact ⟨k + 1, by go_num, by omega, ⟨by omega⟩, HJ, HS⟩
    · have hkk : k = hN l + 1 := by omega
      have hlt := HF.out.2.2.1 hkk
      have hlt2 : ¬ (p : Int) ≤ (l.length : Int) := by omega
      go_wp2
      go_ret2
      exact ⟨rfl, HS.out.below⟩
theorem pw_list : ∀ k, k < 10 → pw k ∈ ([1, 2, 4, 8, 16, 32, 64, 128, 256, 512] : List Nat) := by decide
theorem pw_of : ∀ s ∈ ([1, 2, 4, 8, 16, 32, 64, 128, 256, 512] : List Nat), ∃ k, k < 10 ∧ pw k = s := by decide
theorem fits {l : List Int} (hcp : Caps l) {k f : Nat} (hk : k ≤ hN l) (hf : f < l.length) (hm : f % pw k = 0) : f + pw k ≤ l.length := by
  have h := wF_in hcp hf hk
  have e : wF f k = f := by
    unfold wF
    have : f % 2 ^ k = 0 := hm
    omega
  rw [e] at h
  exact h
set_option maxRecDepth 100000 in
set_option maxHeartbeats 8000000 in
theorem ref_none3 (hr : Kd.C (Kd.int .i64) w A l.length l) (hlc : l.length ≤ c) (hg : goodL l) (hcp : Caps l) {F S : Int} (hw : ¬ winOk l.length F S) :
    Calls Tryd.prog 41 #[.slice A l.length c, .agg #[.int .i64 1, .int .i64 F, .int .i64 S, .int .i64 (8 * (l.length : Int))]] w fun e w' => e = .returned (.tuple #[.slice none 0 0, .int .i64 1]) ∧ Below w.heap.size w w' := by
  have gA : eqB (1, F, S, 8 * (l.length : Int)) (0, 0, 0, 8 * (l.length : Int)) = false := decide_eq_false (by simp)
  have gG : eqB (1, F, S, 8 * (l.length : Int)) (2, 0, 2 * (l.length : Int), 16 * (l.length : Int)) = false := decide_eq_false (by simp)
  have gD : eqB (1, F, S, 8 * (l.length : Int)) (3, 0, ((l.length / 2 : Nat) : Int), 4 * (l.length : Int)) = false := decide_eq_false (by simp)
  have HW := Aside0.mk hw
  clear hw
  have hs0 := (Sep.nil w).new_blk #[.int .i64 1, .int .i64 F, .int .i64 S, .int .i64 (8 * (l.length : Int))] 41
  have HS := Aside0.mk hs0
  have HR := Aside0.mk hr
  have HLC := Aside0.mk hlc
  have HG := Aside0.mk hg
  have CK := Aside0.mk (refSum_0 (c := c) (Kd.C_below hr hs0.below) hlc hg (by have := hcp.le; omega))
  have heq := fun w => eqS w
  have hgd := guardS
  have hl := hcp.le
  have HCP := Aside0.mk hcp
  obtain ⟨m, hm⟩ : ∃ m, l.length = 2 * m := ⟨2 ^ (hN l - 1), by rw [hcp.len, ← Nat.pow_succ']; congr 1; have := hcp.h2; omega⟩
  have e1 : ((l.length : Int)).tdiv 2 = m := by rw [Int.tdiv_eq_ediv_of_nonneg (by omega)]; omega
  have hm2 : m ≤ 256 := by omega
  rw [show ((l.length / 2 : Nat) : Int) = (m : Int) by omega] at gD
  clear hr hs0 hlc hg hcp hm
  go_enter Tryd.func41, Tryd.ntmps41
  go_wp2_with fail
  refine CK.out.mono ?_
  clear CK
  rintro e w1 ⟨rfl, hd⟩
  replace HS := Aside0.mk (HS.out.step hd.below)
  clear hd
  have c0 : (_ : Option Value) = some (.int .i64 1) := (blk_cell (HS.out.blk 0 rfl) 0).trans rfl
  have c1 : (_ : Option Value) = some (.int .i64 F) := (blk_cell (HS.out.blk 0 rfl) 1).trans rfl
  have c2 : (_ : Option Value) = some (.int .i64 S) := (blk_cell (HS.out.blk 0 rfl) 2).trans rfl
  have c3 : (_ : Option Value) = some (.int .i64 (8 * (l.length : Int))) := (blk_cell (HS.out.blk 0 rfl) 3).trans rfl
  go_wp2
  clear c0 c1 c2 c3
  have HJ : Aside0 True := ⟨trivial⟩
  go_loopg [8] (hN l + 2) (fun kq v8 W => ∃ k : Nat, v8 = .int .i64 k ∧ k ≤ hN l + 1 ∧ Aside0 (hN l + 1 - k ≤ kq) ∧ Aside0 True ∧ Aside0 (Sep w W [Blk w.heap.size #[.int .i64 1, .int .i64 F, .int .i64 S, .int .i64 (8 * (l.length : Int))] 41]))
  case atStart => exact ⟨0, rfl, by omega, ⟨by omega⟩, ⟨trivial⟩, HS⟩
  case round =>
    clear HS HJ
    obtain ⟨k, rfl, hk, HQ, HJ, HS⟩ := hrel
    have HF := Aside0.mk (pw_facts HCP.out hk)
    obtain ⟨p, hp⟩ : ∃ p, pw k = p := ⟨_, rfl⟩
    rw [hp] at HF
    have HPW := Aside0.mk hp
    clear hp
    go_wp2_with fail
    refine (HF.out.1 _).mono ?_
    rintro e w3 ⟨rfl, hd⟩
    replace HS := Aside0.mk (HS.out.step hd.below)
    clear hd
    by_cases hkh : k ≤ hN l
    · have hle := HF.out.2.1 (by omega)
      have hle2 : (p : Int) ≤ (l.length : Int) := by omega
      have hp1 := HF.out.2.2.2
      have hkb : k ≤ 9 := by have := HCP.out.h9; omega
      go_wp2_with fail
      refine (HF.out.1 _).mono ?_
      rintro e w4 ⟨rfl, hd⟩
      replace HS := Aside0.mk (HS.out.step hd.below)
      clear hd
      by_cases hS : S = p
      · subst hS
        have c0 : (_ : Option Value) = some (.int .i64 1) := (blk_cell (HS.out.blk 0 rfl) 0).trans rfl
        have c1 : (_ : Option Value) = some (.int .i64 F) := (blk_cell (HS.out.blk 0 rfl) 1).trans rfl
        have c2 : (_ : Option Value) = some (.int .i64 p) := (blk_cell (HS.out.blk 0 rfl) 2).trans rfl
        have c3 : (_ : Option Value) = some (.int .i64 (8 * (l.length : Int))) := (blk_cell (HS.out.blk 0 rfl) 3).trans rfl
        by_cases hF : F < 0
        · have f1 : ¬ (0 : Int) ≤ F := by omega
          go_wp2
          go_roundg (hN l - k)
          case measure => have := HQ.out; omega
          case rel => exact ⟨k + 1, by go_num, by omega, ⟨by omega⟩, HJ, HS⟩
        · obtain ⟨f, rfl⟩ := Int.eq_ofNat_of_zero_le (show 0 ≤ F by omega)
          by_cases hFn : f < l.length
          · have f2 : (f : Int) < (l.length : Int) := by omega
            have e3 : ((f : Int)).tmod (p : Int) = ((f % p : Nat) : Int) := by rw [Int.tmod_eq_emod_of_nonneg (by omega)]; rfl
            have p0 : ¬ (p : Int) = 0 := by omega
            have hne : ¬ f % p = 0 := fun h => HW.out ⟨f, p, rfl, rfl, by rw [← HPW.out]; exact pw_list k (by omega), by
              have := fits HCP.out hkh hFn (by rw [HPW.out]; exact h)
              rw [HPW.out] at this
              exact this, h⟩
            obtain ⟨r, hr⟩ : ∃ r, f % p = r := ⟨_, rfl⟩
            rw [hr] at e3 hne
            have q5 : ((r : Int) == 0) = false := beq_eq_false_iff_ne.2 (by omega)
            have hrb : r ≤ 512 := by
              have := Nat.mod_lt f (show p > 0 by omega)
              omega
            clear hr hne hF
            go_wp2
            go_roundg (hN l - k)
            case measure => have := HQ.out; omega
            case rel => exact ⟨k + 1, by go_num, by omega, ⟨by omega⟩, HJ, HS⟩
          · have f2 : ¬ (f : Int) < (l.length : Int) := by omega
            clear hF
            go_wp2
            go_roundg (hN l - k)
            case measure => have := HQ.out; omega
            case rel => exact ⟨k + 1, by go_num, by omega, ⟨by omega⟩, HJ, HS⟩
      · have c0 : (_ : Option Value) = some (.int .i64 1) := (blk_cell (HS.out.blk 0 rfl) 0).trans rfl
        have c1 : (_ : Option Value) = some (.int .i64 F) := (blk_cell (HS.out.blk 0 rfl) 1).trans rfl
        have c2 : (_ : Option Value) = some (.int .i64 S) := (blk_cell (HS.out.blk 0 rfl) 2).trans rfl
        have c3 : (_ : Option Value) = some (.int .i64 (8 * (l.length : Int))) := (blk_cell (HS.out.blk 0 rfl) 3).trans rfl
        have q4 : (S == (p : Int)) = false := beq_eq_false_iff_ne.2 hS
        go_wp2
        go_roundg (hN l - k)
        case measure => have := HQ.out; omega
        case rel => exact ⟨k + 1, by go_num, by omega, ⟨by omega⟩, HJ, HS⟩
    · have hkk : k = hN l + 1 := by omega
      have hlt := HF.out.2.2.1 hkk
      have hlt2 : ¬ (p : Int) ≤ (l.length : Int) := by omega
      go_wp2
      go_ret2
      exact ⟨rfl, HS.out.below⟩
set_option maxRecDepth 100000 in
set_option maxHeartbeats 8000000 in
theorem ref_win (hr : Kd.C (Kd.int .i64) w A l.length l) (hlc : l.length ≤ c) (hg : goodL l) (hcp : Caps l) {f k0 : Nat} (hk0 : k0 ≤ hN l) (hf : f + pw k0 ≤ l.length) (hf0 : f % pw k0 = 0) :
    Calls Tryd.prog 41 #[.slice A l.length c, .agg #[.int .i64 1, .int .i64 f, .int .i64 (pw k0 : Nat), .int .i64 (8 * (l.length : Int))]] w fun e w' => ∃ A' c', e = .returned (.tuple #[.slice A' l.length c', .int .i64 0]) ∧ Sep w w' [S1.Own (.slice A' l.length c') (spr l f (pw k0))] := by
  have gA : eqB (1, (f : Int), ((pw k0 : Nat) : Int), 8 * (l.length : Int)) (0, 0, 0, 8 * (l.length : Int)) = false := decide_eq_false (by simp)
  have gG : eqB (1, (f : Int), ((pw k0 : Nat) : Int), 8 * (l.length : Int)) (2, 0, 2 * (l.length : Int), 16 * (l.length : Int)) = false := decide_eq_false (by simp)
  have gD : eqB (1, (f : Int), ((pw k0 : Nat) : Int), 8 * (l.length : Int)) (3, 0, ((l.length / 2 : Nat) : Int), 4 * (l.length : Int)) = false := decide_eq_false (by simp)
  obtain ⟨s, hs⟩ : ∃ s, pw k0 = s := ⟨_, rfl⟩
  rw [hs] at hf hf0 gA gG gD
  rw [hs]
  have HK0 := Aside0.mk (And.intro hs hk0)
  have hs1 : 1 ≤ s := by rw [← hs]; exact Nat.one_le_two_pow
  have e3 : ((f : Int)).tmod (s : Int) = 0 := by rw [Int.tmod_eq_emod_of_nonneg (by omega)]; omega
  have p0 : ¬ (s : Int) = 0 := by omega
  obtain ⟨htk, hRt⟩ := take_nat (A := A) (f := f) (l := l) (by omega) hlc
  obtain ⟨A3, hct, hRc⟩ := cut_nat (A := A) hf hlc
  have HRt := Aside0.mk hRt
  have HRc := Aside0.mk hRc
  have hsumb := sumW_bound hg (by have := hcp.le; omega) f s
  have hsum2 : sumW l f s ≤ 8 * (s : Int) := by
    have := (good_sum (good_take (good_drop hg f) s)).2
    rw [List.length_take, List.length_drop] at this
    unfold sumW
    omega
  have hs512 : s ≤ 512 := by have := hcp.le; omega
  have HSH := Aside0.mk (fun w => refShares_any (n := (sumW l f s).toNat) (s := s) (by omega) hs512 (by omega) w)
  rw [show (((sumW l f s).toNat : Nat) : Int) = sumW l f s by omega] at HSH
  have HSP := Aside0.mk (spr_len hf)
  clear hs hk0 hf0 hRt hRc hsumb hsum2
  have hs0 := (Sep.nil w).new_blk #[.int .i64 1, .int .i64 f, .int .i64 s, .int .i64 (8 * (l.length : Int))] 41
  have HS := Aside0.mk hs0
  have HR := Aside0.mk hr
  have HLC := Aside0.mk hlc
  have HG := Aside0.mk hg
  have CK := Aside0.mk (refSum_0 (c := c) (Kd.C_below hr hs0.below) hlc hg (by have := hcp.le; omega))
  have heq := fun w => eqS w
  have hgd := guardS
  have hl := hcp.le
  have HCP := Aside0.mk hcp
  obtain ⟨m, hm⟩ : ∃ m, l.length = 2 * m := ⟨2 ^ (hN l - 1), by rw [hcp.len, ← Nat.pow_succ']; congr 1; have := hcp.h2; omega⟩
  have e1 : ((l.length : Int)).tdiv 2 = m := by rw [Int.tdiv_eq_ediv_of_nonneg (by omega)]; omega
  have hm2 : m ≤ 256 := by omega
  rw [show ((l.length / 2 : Nat) : Int) = (m : Int) by omega] at gD
  clear hr hs0 hlc hg hcp hm
  go_enter Tryd.func41, Tryd.ntmps41
  go_wp2_with fail
  refine CK.out.mono ?_
  clear CK
  rintro e w1 ⟨rfl, hd⟩
  replace HS := Aside0.mk (HS.out.step hd.below)
  clear hd
  have c0 : (_ : Option Value) = some (.int .i64 1) := (blk_cell (HS.out.blk 0 rfl) 0).trans rfl
  have c1 : (_ : Option Value) = some (.int .i64 f) := (blk_cell (HS.out.blk 0 rfl) 1).trans rfl
  have c2 : (_ : Option Value) = some (.int .i64 s) := (blk_cell (HS.out.blk 0 rfl) 2).trans rfl
  have c3 : (_ : Option Value) = some (.int .i64 (8 * (l.length : Int))) := (blk_cell (HS.out.blk 0 rfl) 3).trans rfl
  go_wp2
  clear c0 c1 c2 c3
  go_loopg [8] (hN l + 2) (fun kq v8 W => ∃ k : Nat, v8 = .int .i64 k ∧ k ≤ k0 ∧ Aside0 (hN l + 1 - k ≤ kq) ∧ Aside0 (Sep w W [Blk w.heap.size #[.int .i64 1, .int .i64 f, .int .i64 s, .int .i64 (8 * (l.length : Int))] 41]))
  case atStart => exact ⟨0, rfl, by omega, ⟨by omega⟩, HS⟩
  case round =>
    clear HS
    obtain ⟨k, rfl, hk1, HQ, HS⟩ := hrel
    have hk : k ≤ hN l + 1 := by have := HK0.out.2; omega
    have hkh : k ≤ hN l := by have := HK0.out.2; omega
    have HF := Aside0.mk (pw_facts HCP.out hk)
    obtain ⟨p, hp⟩ : ∃ p, pw k = p := ⟨_, rfl⟩
    rw [hp] at HF
    have HPW := Aside0.mk hp
    clear hp
    go_wp2_with fail
    refine (HF.out.1 _).mono ?_
    rintro e w3 ⟨rfl, hd⟩
    replace HS := Aside0.mk (HS.out.step hd.below)
    clear hd
    have hle := HF.out.2.1 (by omega)
    have hle2 : (p : Int) ≤ (l.length : Int) := by omega
    have hp1 := HF.out.2.2.2
    have hkb : k ≤ 9 := by have := HCP.out.h9; omega
    go_wp2_with fail
    refine (HF.out.1 _).mono ?_
    rintro e w4 ⟨rfl, hd⟩
    replace HS := Aside0.mk (HS.out.step hd.below)
    clear hd
    have c0 : (_ : Option Value) = some (.int .i64 1) := (blk_cell (HS.out.blk 0 rfl) 0).trans rfl
    have c1 : (_ : Option Value) = some (.int .i64 f) := (blk_cell (HS.out.blk 0 rfl) 1).trans rfl
    have c2 : (_ : Option Value) = some (.int .i64 s) := (blk_cell (HS.out.blk 0 rfl) 2).trans rfl
    have c3 : (_ : Option Value) = some (.int .i64 (8 * (l.length : Int))) := (blk_cell (HS.out.blk 0 rfl) 3).trans rfl
    by_cases hkk : k < k0
    · have hlt := pw_inj hkk
      rw [HPW.out, HK0.out.1] at hlt
      have q4 : ((s : Int) == (p : Int)) = false := beq_eq_false_iff_ne.2 (by omega)
      clear hlt
      go_wp2
      go_roundg (hN l - k)
      case measure => have := HQ.out; omega
      case rel => exact ⟨k + 1, by go_num, by omega, ⟨by omega⟩, HS⟩
    · obtain rfl : k = k0 := by omega
      obtain rfl : p = s := HPW.out.symm.trans HK0.out.1
      have f2 : (f : Int) < (l.length : Int) := by omega
      have HSe := Aside0.mk (HS.out.append ((Sep.nil w4).new_own (below_alloc (Below.refl _ w4) (.cells #[] 3)) (own_lit w4 w4.heap.size 3 .i64 [] (Nat.le_refl _) (by decide))))
      have HRe := Aside0.mk (HRt.out _ (Kd.C_below (Kd.C_below HR.out HS.out.below) (below_alloc (Below.refl _ w4) (.cells #[] 3))))
      have hlen0 : ([] : List Int).length + f ≤ 1000000 := by simp; omega
      have k1 : (_ : Option Value) = some (.int .i64 f) := (blk_cell (HSe.out.blk 0 rfl) 1).trans rfl
      clear HS
      go_wp2_with ((with_reducible refine gate_builtin (b := .append) (xs := #[.tmp 99, .tmp 103]) rfl ?_); at_builtin; refine sep_append_row rfl (.tmp 99) (.tmp 103) rfl HSe.out 1 rfl HRe.out rfl rfl hlen0 ?_; intro v1 w5 hs; have d1 : (_ : Option Value) = some (.int .i64 f) := (blk_cell (hs.blk 0 rfl) 1).trans rfl; have d2 : (_ : Option Value) = some (.int .i64 p) := (blk_cell (hs.blk 0 rfl) 2).trans rfl; have HS := Aside0.mk hs; clear hs)
      have CSM := Aside0.mk (refSum_any (Kd.C_below HR.out HS.out.below) HLC.out HG.out (by omega) hf)
      refine CSM.out.mono ?_
      clear CSM d1 d2 htk
      rintro e w6 ⟨rfl, hd⟩
      replace HS := Aside0.mk (HS.out.step hd.below)
      clear hd
      go_wp2_with fail
      refine (HSH.out _).mono ?_
      rintro e w7 ⟨v2, rfl, hs⟩
      obtain ⟨A6, c6, ev, _⟩ := own_C (hs.own 0 rfl)
      rw [shrL_len] at ev
      subst ev
      replace HS := Aside0.mk (HS.out.append hs)
      clear hs HSH
      have HR6 := Aside0.mk (HS.out.row 2 rfl).2.2
      have hz1 : (([] : List Int) ++ l.take f).length + p ≤ 1000000 := by simp; omega
      have hz2 : (([] : List Int) ++ l.take f ++ shrL (sumW l f p).toNat p).length + (l.length - (f + p)) ≤ 1000000 := by rw [List.length_append, shrL_len]; simp; omega
      have HE := Aside0.mk (show ([] : List Int) ++ l.take f ++ shrL (sumW l f p).toNat p ++ l.drop (f + p) = spr l f p from rfl)
      go_wp2_with (first | ((with_reducible refine gate_builtin (b := .append) (xs := #[.tmp 105, .tmp 112]) rfl ?_); at_builtin; refine sep_append_row rfl (.tmp 105) (.tmp 112) rfl HS.out 1 rfl HR6.out rfl rfl hz1 ?_; intro v3 w8 hs; have d1 : (_ : Option Value) = some (.int .i64 f) := (blk_cell (hs.blk 0 rfl) 1).trans rfl; have d2 : (_ : Option Value) = some (.int .i64 p) := (blk_cell (hs.blk 0 rfl) 2).trans rfl; have HS8 := Aside0.mk hs; have HRC := Aside0.mk (HRc.out _ (Kd.C_below HR.out hs.below)); clear hs) | ((with_reducible refine gate_builtin (b := .append) (xs := #[.tmp 114, .tmp 120]) rfl ?_); at_builtin; refine sep_append_row rfl (.tmp 114) (.tmp 120) rfl HS8.out 1 rfl HRC.out rfl rfl hz2 ?_; intro v4 w9 hs; obtain ⟨A7, c7, e7, _⟩ := own_C (hs.own 1 rfl); rw [HE.out, HSP.out] at e7; subst e7; have HS9 := Aside0.mk hs; clear hs))
      rw [HE.out] at HS9
      (try rw [Exit.noGoto_ret])
      go_ret2
      exact ⟨A7, c7, rfl, (HS9.out.take 2).tail⟩
end
end Go.Proofs.YtlaegahdignphaaDoor.O6
