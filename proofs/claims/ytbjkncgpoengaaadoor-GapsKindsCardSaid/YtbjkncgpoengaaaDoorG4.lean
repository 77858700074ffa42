/- Walks of the rows of bits: the last one that is on. -/
import Derived.Test.YtbjkncgpoengaaaDoorG3
namespace Go.Proofs.YtbjkncgpoengaaaDoor.G4
open Go.RowKit Go.Proofs.YtbjkncgpoengaaaDoorW.PrintWords Go.Proofs.YtbjkncgpoengaaaDoorW.PrintLast Go.Proofs.YtbjkncgpoengaaaDoorW.PrintMore G1 G0 Q1 G2 G3
set_option linter.unusedVariables false
set_option linter.unusedSimpArgs false

def lastF (f : Nat → Bool) : Nat → Int
  | 0 => -1
  | m + 1 => if f m then (m : Int) else lastF f m
theorem last_is {f : Nat → Bool} {t : Nat} (ht : f t = true) : ∀ m, t < m → (∀ j, t < j → j < m → f j = false) → lastF f m = t := by
  intro m
  induction m with
  | zero => intro h; omega
  | succ m ih =>
    intro h1 h2
    simp only [lastF]
    by_cases e : t = m
    · subst e; rw [if_pos ht]
    · rw [if_neg (by rw [h2 m (by omega) (by omega)]; decide), ih (by omega) (fun j a b => h2 j a (by omega))]
theorem last_none {f : Nat → Bool} : ∀ m, (∀ j, j < m → f j = false) → lastF f m = -1 := by
  intro m
  induction m with
  | zero => intro _; rfl
  | succ m ih =>
    intro h
    simp only [lastF]
    rw [if_neg (by rw [h m (by omega)]; decide), ih (fun j a => h j (by omega))]
def prevI (f : Nat → Bool) (n : Nat) (i : Int) : Int := lastF f (min (i + 1) n).toNat
structure PrevW (f : Nat → Bool) (i k v : Nat) : Prop where
  small : v < 18446744073709551616
  behind : ∀ j, 64 * k + 64 ≤ j → j ≤ i → f j = false
  bit : ∀ j, j < 64 → v.testBit j = (decide (64 * k + j ≤ i) && f (64 * k + j))
  high : 64 * k ≤ i
theorem PrevW.found {f : Nat → Bool} {i k v : Nat} (h : PrevW f i k v) (h0 : 0 < v) : lastF f (i + 1) = (k : Int) * 64 + lenN v - 1 ∧ 0 < lenN v ∧ lenN v ≤ 64 := by
  obtain ⟨t1, t2, t3, t4⟩ := len_top v h0 h.small
  have hb := h.bit _ (show lenN v - 1 < 64 by omega)
  rw [t3] at hb
  have hb2 := hb.symm
  rw [Bool.and_eq_true, decide_eq_true_eq] at hb2
  refine ⟨?_, t1, t2⟩
  rw [last_is hb2.2 (i + 1) (by omega) fun j h1 h2 => ?_]
  · omega
  · by_cases hj : 64 * k + 64 ≤ j
    · exact h.behind j hj (by omega)
    · have hb3 := h.bit (j - 64 * k) (by omega)
      rw [t4 _ (by omega), show 64 * k + (j - 64 * k) = j by omega, decide_eq_true (by omega), Bool.true_and] at hb3
      exact hb3.symm
theorem PrevW.none_ {f : Nat → Bool} {i k : Nat} (h : PrevW f i k 0) : ∀ j, 64 * k ≤ j → j ≤ i → f j = false := by
  intro j h1 h2
  by_cases hj : 64 * k + 64 ≤ j
  · exact h.behind j hj h2
  · have hb3 := h.bit (j - 64 * k) (by omega)
    rw [Nat.zero_testBit, show 64 * k + (j - 64 * k) = j by omega, decide_eq_true (by omega), Bool.true_and] at hb3
    exact hb3.symm
theorem high_off (v s : Nat) (hs : s ≤ 64) : v * 2 ^ s % 18446744073709551616 / 2 ^ s = v % 2 ^ (64 - s) := by
  have e : (18446744073709551616 : Nat) = 2 ^ (64 - s) * 2 ^ s := by rw [← Nat.pow_add, show 64 - s + s = 64 by omega]
  rw [e, Nat.mul_mod_mul_right, Nat.mul_div_cancel _ (Nat.two_pow_pos s)]
theorem wu_high (v s : Nat) (hs : s ≤ 64) : IntKind.u64.wrap ((v : Int) * 2 ^ s) / 2 ^ s = ((v % 2 ^ (64 - s) : Nat) : Int) := by
  rw [wu_mul v s hs, ← high_off v s hs]
  simp
theorem prev_start {w : World} {ob wb n : Nat} {f : Nat → Bool} {vs : List Nat} (h : BitsAt w ob wb n f vs) {i : Nat} (hi : i < n) : PrevW f i (i / 64) (vs.getD (i / 64) 0 % 2 ^ (i % 64 + 1)) := by
  have hs := h.small (i / 64)
  have hd := Nat.mod_le (vs.getD (i / 64) 0) (2 ^ (i % 64 + 1))
  refine ⟨by omega, fun j a b => by omega, fun j hj => ?_, by omega⟩
  rw [Nat.testBit_mod_two_pow]
  have hb := h.bit (64 * (i / 64) + j) (by have := h.len; omega)
  rw [show (64 * (i / 64) + j) / 64 = i / 64 by omega, show (64 * (i / 64) + j) % 64 = j by omega] at hb
  rw [hb]
  congr 1
  rw [decide_eq_decide]
  omega
theorem prev_step {w : World} {ob wb n : Nat} {f : Nat → Bool} {vs : List Nat} (h : BitsAt w ob wb n f vs) {i k : Nat} (hi : i < n) (hw : PrevW f i (k + 1) 0) : PrevW f i k (vs.getD k 0) := by
  have hl := hw.high
  refine ⟨h.small _, fun j a b => hw.none_ j (by omega) b, fun j hj => ?_, by omega⟩
  have hb := h.bit (64 * k + j) (by have := h.len; omega)
  rw [show (64 * k + j) / 64 = k by omega, show (64 * k + j) % 64 = j by omega] at hb
  rw [hb, decide_eq_true (by omega), Bool.true_and]
theorem prev_in {w : World} {ob wb n : Nat} {f : Nat → Bool} {vs : List Nat} (h : BitsAt w ob wb n f vs) {i : Nat} (hi : i < n) (hq : i = i) : Calls Tryd.prog 70 #[.pointer (some ⟨ob, 0, none⟩), .int .i64 i] w fun e w' => e = .returned (.int .i64 (lastF f (i + 1))) ∧ Drawn0 w w' := by
  have HH := Aside0.mk h
  have hn := h.high
  have c1 : w.cell? ⟨ob, 1, none⟩ = some (.slice (some ⟨wb, 0, none⟩) ((n + 63) / 64) vs.length) := (blk_cell h.ho 1).trans rfl
  have c2 := h.cell (k := i / 64) (by omega)
  have NW := Aside0.mk (prev_start h hi)
  have hwu := wu_high (vs.getD (i / 64) 0) (63 - i % 64) (by omega)
  rw [show 64 - (63 - i % 64) = i % 64 + 1 by omega] at hwu
  clear h
  generalize vs.getD (i / 64) 0 = v at *
  go_enter Tryd.func70, Tryd.ntmps70
  go_wp2_with fail
  refine (len_any HH.out).mono ?_
  rintro e w1 ⟨rfl, rfl⟩
  go_upto_region 2 with (fail)
  skip
  go_wp2
  rw [hwu]
  clear hwu c2
  generalize v % 2 ^ (i % 64 + 1) = v0 at *
  go_loopg [6, 7] (i / 64 + 1) (fun kq v6 v7 w' => ∃ k x : Nat, v7 = .int .i64 k ∧ k ≤ i / 64 ∧ v6 = .int .u64 x ∧ Aside0 (k + 1 ≤ kq) ∧ Aside0 (PrevW f i k x) ∧ w = w')
  case atStart => exact ⟨i / 64, v0, rfl, by omega, rfl, ⟨by omega⟩, NW, rfl⟩
  case round =>
    obtain ⟨k, x, rfl, hk, rfl, HQ, HN, rfl⟩ := hrel
    have hxs := HN.out.small
    by_cases hx : x = 0
    · subst hx
      by_cases hlast : k = 0
      · subst hlast
        have hnone := Aside0.mk (last_none (f := f) (i + 1) (fun j a => HN.out.none_ j (by omega) (by omega)))
        go_wp2
        go_ret
        exact ⟨by rw [hnone.out]; rfl, Drawn0.refl _⟩
      · obtain ⟨k, rfl⟩ : ∃ j, k = j + 1 := ⟨k - 1, by omega⟩
        have c3 := HH.out.cell (k := k) (by omega)
        have NN := Aside0.mk (prev_step HH.out hi HN.out)
        generalize vs.getD k 0 = y at *
        obtain ⟨gk, rfl⟩ : ∃ m, gk = m + 1 := ⟨gk - 1, by have := HQ.out; omega⟩
        have g3 : ¬ (k : Int) + 1 - 1 < 0 := by omega
        have g6 : ((k + 1 : Nat) : Int) - 1 = (k : Int) := by omega
        go_wp2
        go_roundg gk
        case measure => omega
        case rel => exact ⟨k, y, by go_num, by omega, rfl, ⟨by have := HQ.out; omega⟩, NN, rfl⟩
    · have hf := HN.out.found (by omega)
      have HF := Aside0.mk hf.1
      have ht := hf.2
      have g4 : ((x : Int) != 0) = true := by simp; omega
      have g5 : ((x : Int) == 0) = false := by simp; omega
      have TZ := Aside0.mk (len64_any x hxs w)
      clear hf hxs
      generalize lenN x = t at *
      go_wp2_with fail
      refine TZ.out.mono ?_
      rintro e w1 ⟨rfl, hw⟩
      go_wp2
      go_ret
      exact ⟨by rw [HF.out]; rfl, hw⟩
theorem prev_far {w : World} {ob wb n : Nat} {f : Nat → Bool} {vs : List Nat} (h : BitsAt w ob wb n f vs) {i : Nat} (hi : i < n) {a : Int} (ha : (n : Int) ≤ a) (hq : i + 1 = n) : Calls Tryd.prog 70 #[.pointer (some ⟨ob, 0, none⟩), .int .i64 a] w fun e w' => e = .returned (.int .i64 (lastF f (i + 1))) ∧ Drawn0 w w' := by
  have HH := Aside0.mk h
  have hn := h.high
  have c1 : w.cell? ⟨ob, 1, none⟩ = some (.slice (some ⟨wb, 0, none⟩) ((n + 63) / 64) vs.length) := (blk_cell h.ho 1).trans rfl
  have c2 := h.cell (k := i / 64) (by omega)
  have NW := Aside0.mk (prev_start h hi)
  have hwu := wu_high (vs.getD (i / 64) 0) (63 - i % 64) (by omega)
  rw [show 64 - (63 - i % 64) = i % 64 + 1 by omega] at hwu
  clear h
  generalize vs.getD (i / 64) 0 = v at *
  go_enter Tryd.func70, Tryd.ntmps70
  go_wp2_with fail
  refine (len_any HH.out).mono ?_
  rintro e w1 ⟨rfl, rfl⟩
  go_upto_region 2 with (fail)
  rw [show (n : Int) - 1 = (i : Int) by omega]
  go_wp2
  rw [hwu]
  clear hwu c2
  generalize v % 2 ^ (i % 64 + 1) = v0 at *
  go_loopg [6, 7] (i / 64 + 1) (fun kq v6 v7 w' => ∃ k x : Nat, v7 = .int .i64 k ∧ k ≤ i / 64 ∧ v6 = .int .u64 x ∧ Aside0 (k + 1 ≤ kq) ∧ Aside0 (PrevW f i k x) ∧ w = w')
  case atStart => exact ⟨i / 64, v0, rfl, by omega, rfl, ⟨by omega⟩, NW, rfl⟩
  case round =>
    obtain ⟨k, x, rfl, hk, rfl, HQ, HN, rfl⟩ := hrel
    have hxs := HN.out.small
    by_cases hx : x = 0
    · subst hx
      by_cases hlast : k = 0
      · subst hlast
        have hnone := Aside0.mk (last_none (f := f) (i + 1) (fun j a => HN.out.none_ j (by omega) (by omega)))
        go_wp2
        go_ret
        exact ⟨by rw [hnone.out]; rfl, Drawn0.refl _⟩
      · obtain ⟨k, rfl⟩ : ∃ j, k = j + 1 := ⟨k - 1, by omega⟩
        have c3 := HH.out.cell (k := k) (by omega)
        have NN := Aside0.mk (prev_step HH.out hi HN.out)
        generalize vs.getD k 0 = y at *
        obtain ⟨gk, rfl⟩ : ∃ m, gk = m + 1 := ⟨gk - 1, by have := HQ.out; omega⟩
        have g3 : ¬ (k : Int) + 1 - 1 < 0 := by omega
        have g6 : ((k + 1 : Nat) : Int) - 1 = (k : Int) := by omega
        go_wp2
        go_roundg gk
        case measure => omega
        case rel => exact ⟨k, y, by go_num, by omega, rfl, ⟨by have := HQ.out; omega⟩, NN, rfl⟩
    · have hf := HN.out.found (by omega)
      have HF := Aside0.mk hf.1
      have ht := hf.2
      have g4 : ((x : Int) != 0) = true := by simp; omega
      have g5 : ((x : Int) == 0) = false := by simp; omega
      have TZ := Aside0.mk (len64_any x hxs w)
      clear hf hxs
      generalize lenN x = t at *
      go_wp2_with fail
      refine TZ.out.mono ?_
      rintro e w1 ⟨rfl, hw⟩
      go_wp2
      go_ret
      exact ⟨by rw [HF.out]; rfl, hw⟩
end Go.Proofs.YtbjkncgpoengaaaDoor.G4
