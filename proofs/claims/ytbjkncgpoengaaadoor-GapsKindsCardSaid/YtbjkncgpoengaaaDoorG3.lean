/- Walks of the rows of bits: counted, and the next and the last one that is on. -/
import Derived.Test.YtbjkncgpoengaaaDoorG2
namespace Go.Proofs.YtbjkncgpoengaaaDoor.G3
open Go.RowKit Go.Proofs.YtbjkncgpoengaaaDoorW.PrintWords Go.Proofs.YtbjkncgpoengaaaDoorW.PrintLast Go.Proofs.YtbjkncgpoengaaaDoorW.PrintMore G1 G0 Q1 G2
set_option linter.unusedVariables false
set_option linter.unusedSimpArgs false

theorem pc_word {w : World} {ob wb n : Nat} {f : Nat → Bool} {vs : List Nat} (h : BitsAt w ob wb n f vs) {k : Nat} (hk : k < (n + 63) / 64) {m : Nat} (hm : m ≤ 64) : pc (vs.getD k 0) m = cntF (fun j => f (64 * k + j)) m := by
  refine cntF_congr fun j hj => ?_
  have := h.bit (64 * k + j) (by have := h.len; omega)
  rw [show (64 * k + j) / 64 = k by omega, show (64 * k + j) % 64 = j by omega] at this
  exact this
theorem cnt_word {w : World} {ob wb n : Nat} {f : Nat → Bool} {vs : List Nat} (h : BitsAt w ob wb n f vs) {k : Nat} (hk : k < (n + 63) / 64) {m : Nat} (hm : m ≤ 64) : cntF f (64 * k) + pc (vs.getD k 0) m = cntF f (64 * k + m) := by
  rw [pc_word h hk hm, cntF_add]
theorem pc_shl (v s : Nat) (hs : s ≤ 64) : pc (v * 2 ^ s % 18446744073709551616) 64 = pc v (64 - s) := by
  unfold pc
  have e : ∀ j, (v * 2 ^ s % 18446744073709551616).testBit j = (decide (j < 64) && (decide (j ≥ s) && v.testBit (j - s))) := by
    intro j
    rw [show (18446744073709551616 : Nat) = 2 ^ 64 from rfl, Nat.testBit_mod_two_pow, ← Nat.shiftLeft_eq, Nat.testBit_shiftLeft]
  rw [show 64 = s + (64 - s) by omega, cntF_add, cntF_none (fun i hi => by rw [e, decide_eq_false (show ¬ i ≥ s by omega)]; simp), Nat.zero_add, show s + (64 - s) - s = 64 - s by omega]
  refine cntF_congr fun j hj => ?_
  rw [e, decide_eq_true (by omega), decide_eq_true (by omega), Nat.add_sub_cancel_left]
  rfl
theorem wu_mul (v s : Nat) (hs : s ≤ 64) : IntKind.u64.wrap ((v : Int) * 2 ^ s) = ((v * 2 ^ s % 18446744073709551616 : Nat) : Int) := by
  have e : (v : Int) * 2 ^ s = ((v * 2 ^ s : Nat) : Int) := by simp
  rw [e]
  generalize v * 2 ^ s = x
  simp [IntKind.wrap, IntKind.signed, IntKind.bits]
set_option maxHeartbeats 1000000 in
theorem ahead_any {w : World} {ob wb n : Nat} {f : Nat → Bool} {vs : List Nat} (h : BitsAt w ob wb n f vs) {tt : Nat} (ht : tt ≤ n) : Calls Tryd.prog 76 #[.pointer (some ⟨ob, 0, none⟩), .int .i64 tt] w fun e w' => e = .returned (.int .i64 (cntF f tt)) ∧ Drawn0 w w' := by
  have HH := Aside0.mk h
  have HD := Aside0.mk (Drawn0.refl w)
  have hn := h.high
  clear h
  go_enter Tryd.func76, Tryd.ntmps76
  go_wp2
  go_loopg [5, 6, 10] (tt / 64) (fun kq v5 v6 v10 w' => ∃ k : Nat, v10 = .int .i64 k ∧ k ≤ tt / 64 ∧ v5 = .int .i64 (cntF f (64 * k)) ∧ Aside0 (kq = tt / 64 - k) ∧ Aside0 (Drawn0 w w'))
  case atStart => exact ⟨0, rfl, by omega, rfl, ⟨by omega⟩, HD⟩
  case round =>
    clear HD
    obtain ⟨k, rfl, hk, rfl, HQ, HD⟩ := hrel
    have H2 := Aside0.mk (HH.out.below HD.out.below)
    have c1 : (_ : Option Value) = some (.slice (some ⟨wb, 0, none⟩) ((n + 63) / 64) vs.length) := (blk_cell H2.out.ho 1).trans rfl
    have hcl := cntF_le f (64 * k)
    by_cases hlt : k < tt / 64
    · have c2 := H2.out.cell (k := k) (by omega)
      have hs := H2.out.small k
      have HE := Aside0.mk (cnt_word H2.out (k := k) (by omega) (m := 64) (by omega))
      have hp := cntF_le (vs.getD k 0).testBit 64
      have OC := Aside0.mk (ones_any (vs.getD k 0) hs)
      unfold pc at HE OC
      generalize cntF (vs.getD k 0).testBit 64 = p at *
      generalize vs.getD k 0 = v at *
      generalize cntF f (64 * k) = q at *
      clear hs
      go_wp2_with fail
      refine (OC.out _).mono ?_
      rintro e w1 ⟨rfl, hw⟩
      have HD2 := Aside0.mk (hw)
      clear hw
      go_wp2
      go_roundg (tt / 64 - (k + 1))
      case measure => have := HQ.out; omega
      case rel => exact ⟨k + 1, by go_num, by omega, by rw [show 64 * (k + 1) = 64 * k + 64 by omega, ← HE.out]; go_num, ⟨rfl⟩, ⟨by obtain ⟨a, ha⟩ := HD.out; obtain ⟨b, hb⟩ := HD2.out; exact ⟨a + b, by rw [hb, ha]; simp [Nat.add_assoc]⟩⟩⟩
    · have e : k = tt / 64 := by omega
      by_cases h0 : tt % 64 = 0
      · have HE : Aside0 (cntF f (64 * k) = cntF f tt) := ⟨by rw [show 64 * k = tt by omega]⟩
        clear hcl
        generalize cntF f (64 * k) = q at *
        go_wp2
        go_ret
        exact ⟨by rw [HE.out]; rfl, HD.out⟩
      · have HE := Aside0.mk (cnt_word H2.out (k := k) (by omega) (m := tt % 64) (by omega))
        rw [show 64 * k + tt % 64 = tt by omega] at HE
        have hps := pc_shl (vs.getD k 0) (64 - tt % 64) (by omega)
        rw [show 64 - (64 - tt % 64) = tt % 64 by omega] at hps
        have OC := Aside0.mk (ones_any (vs.getD k 0 * 2 ^ (64 - tt % 64) % 18446744073709551616) (Nat.mod_lt _ (by omega)))
        rw [hps, ← wu_mul _ _ (by omega)] at OC
        have c2 := H2.out.cell (k := k) (by omega)
        rw [e] at c2
        have hp := cntF_le (vs.getD k 0).testBit (tt % 64)
        unfold pc at HE OC
        generalize cntF (vs.getD k 0).testBit (tt % 64) = p at *
        rw [← e] at c2
        generalize vs.getD k 0 = v at *
        generalize cntF f (64 * k) = q at *
        subst e
        have g1 : 0 < tt % 64 := by omega
        clear hps
        go_wp2_with fail
        refine (OC.out _).mono ?_
        rintro e w1 ⟨rfl, hw⟩
        have HD2 := Aside0.mk (hw)
        clear hw
        go_wp2
        go_ret
        exact ⟨by rw [← HE.out]; first | rfl | (congr 2), by obtain ⟨a, ha⟩ := HD.out; obtain ⟨b, hb⟩ := HD2.out; exact ⟨a + b, by rw [hb, ha]; simp [Nat.add_assoc]⟩⟩
theorem count_any {w : World} {ob wb n : Nat} {f : Nat → Bool} {vs : List Nat} (h : BitsAt w ob wb n f vs) : Calls Tryd.prog 58 #[.pointer (some ⟨ob, 0, none⟩)] w fun e w' => e = .returned (.int .i64 (cntF f n)) ∧ Drawn0 w w' := by
  have HH := Aside0.mk h
  clear h
  go_enter Tryd.func58, Tryd.ntmps58
  go_wp2_with fail
  refine (len_any HH.out).mono ?_
  rintro e w1 ⟨rfl, rfl⟩
  go_wp2_with fail
  refine (ahead_any HH.out (Nat.le_refl _)).mono ?_
  rintro e w1 ⟨rfl, hw⟩
  go_wp2
  go_ret
  exact ⟨rfl, hw⟩
theorem range_in {w : World} {ob wb n : Nat} {f : Nat → Bool} {vs : List Nat} (h : BitsAt w ob wb n f vs) {a b : Nat} (h1 : a ≤ b) (h2 : b ≤ n) : Calls Tryd.prog 68 #[.pointer (some ⟨ob, 0, none⟩), .int .i64 a, .int .i64 b] w fun e w' => e = .returned (.tuple #[.int .i64 (cntF f b - cntF f a : Nat), .int .i64 0]) ∧ Drawn0 w w' := by
  have HH := Aside0.mk h
  have hn := h.high
  have c0 : w.cell? ⟨ob, 0, none⟩ = some (.int .i64 n) := (blk_cell h.ho 0).trans rfl
  have hm := cntF_mono f h1
  have hl := cntF_le f b
  clear h
  go_enter Tryd.func68, Tryd.ntmps68
  go_wp2_with fail
  refine (ahead_any HH.out h2).mono ?_
  rintro e w1 ⟨rfl, hw⟩
  have HW := Aside0.mk hw
  clear hw
  go_wp2_with fail
  refine (ahead_any (HH.out.below HW.out.below) (Nat.le_trans h1 h2)).mono ?_
  rintro e w2 ⟨rfl, hw⟩
  have HW2 := Aside0.mk hw
  clear hw
  go_wp2
  go_ret2
  have e1 : (cntF f b : Int) - (cntF f a : Int) = ((cntF f b - cntF f a : Nat) : Int) := by omega
  exact ⟨by show Ending.returned (.tuple #[.int .i64 ((cntF f b : Int) - (cntF f a : Int)), .int .i64 0]) = _; rw [e1], by obtain ⟨a, ha⟩ := HW.out; obtain ⟨b, hb⟩ := HW2.out; exact ⟨a + b, by rw [hb, ha]; simp [Nat.add_assoc]⟩⟩
theorem range_out {w : World} {ob wb n : Nat} {f : Nat → Bool} {vs : List Nat} (h : BitsAt w ob wb n f vs) {a b : Int} (h1 : a < 0 ∨ b < a ∨ (n : Int) < b) : Calls Tryd.prog 68 #[.pointer (some ⟨ob, 0, none⟩), .int .i64 a, .int .i64 b] w fun e w' => e = .returned (.tuple #[.int .i64 0, .int .i64 10]) ∧ w = w' := by
  have c0 : w.cell? ⟨ob, 0, none⟩ = some (.int .i64 n) := (blk_cell h.ho 0).trans rfl
  clear h
  by_cases q1 : a < 0
  · clear h1
    go_enter Tryd.func68, Tryd.ntmps68
    go_wp2
    go_ret2
    exact ⟨rfl, rfl⟩
  · by_cases q2 : b < a
    · clear h1
      go_enter Tryd.func68, Tryd.ntmps68
      go_wp2
      go_ret2
      exact ⟨rfl, rfl⟩
    · have q3 : (n : Int) < b := by omega
      clear h1
      go_enter Tryd.func68, Tryd.ntmps68
      go_wp2
      go_ret2
      exact ⟨rfl, rfl⟩

/-! The next one, and the last one. -/
def nextI (f : Nat → Bool) (n : Nat) (i : Int) : Int := if firstF f (n - i.toNat) i.toNat < n then firstF f (n - i.toNat) i.toNat else -1
theorem next_is {f : Nat → Bool} {n : Nat} {i : Int} {t : Nat} (ht : f t = true) (h1 : i.toNat ≤ t) (h2 : t < n) (h3 : ∀ j, i.toNat ≤ j → j < t → f j = false) : nextI f n i = t := by
  unfold nextI
  rw [first_is ht _ _ h1 (by omega) h3, if_pos h2]
theorem next_none {f : Nat → Bool} {n : Nat} {i : Int} (h : ∀ j, i.toNat ≤ j → j < n → f j = false) : nextI f n i = -1 := by
  unfold nextI
  by_cases h1 : i.toNat ≤ n
  · rw [first_none _ _ (fun j a b => h j a (by omega)), if_neg (by omega)]
  · rw [show n - i.toNat = 0 by omega]
    show (if i.toNat < n then _ else _) = _
    rw [if_neg (by omega)]
/-- The word that is looked through. -/
structure NextW (f : Nat → Bool) (n i k v : Nat) : Prop where
  small : v < 18446744073709551616
  ahead : ∀ j, i ≤ j → j < 64 * k → f j = false
  bit : ∀ j, j < 64 → v.testBit j = (decide (i ≤ 64 * k + j) && f (64 * k + j))
  low : i < 64 * k + 64
theorem NextW.found {f : Nat → Bool} {n i k v : Nat} (h : NextW f n i k v) (h0 : 0 < v) (hout : ∀ j, n ≤ j → f j = false) : nextI f n i = ((64 * k + tzN v : Nat) : Int) ∧ tzN v < 64 := by
  obtain ⟨t1, t2, t3, _⟩ := tz_is v h0 h.small
  have hb := h.bit _ t1
  rw [t2] at hb
  have hb2 := hb.symm
  rw [Bool.and_eq_true, decide_eq_true_eq] at hb2
  refine ⟨next_is hb2.2 (by omega) (Nat.lt_of_not_le fun hc => by rw [hout _ hc] at hb2; cases hb2.2) fun j h1 h2 => ?_, t1⟩
  by_cases hj : j < 64 * k
  · exact h.ahead j (by omega) hj
  · have hb3 := h.bit (j - 64 * k) (by omega)
    rw [t3 _ (by omega), show 64 * k + (j - 64 * k) = j by omega, decide_eq_true (by omega), Bool.true_and] at hb3
    exact hb3.symm
theorem NextW.none_ {f : Nat → Bool} {n i k : Nat} (h : NextW f n i k 0) : ∀ j, i ≤ j → j < 64 * (k + 1) → f j = false := by
  intro j h1 h2
  by_cases hj : j < 64 * k
  · exact h.ahead j h1 hj
  · have hb3 := h.bit (j - 64 * k) (by omega)
    rw [Nat.zero_testBit, show 64 * k + (j - 64 * k) = j by omega, decide_eq_true (by omega), Bool.true_and] at hb3
    exact hb3.symm
theorem low_off (v s j : Nat) : (v / 2 ^ s * 2 ^ s).testBit j = (decide (j ≥ s) && v.testBit j) := by
  rw [← Nat.shiftLeft_eq, ← Nat.shiftRight_eq_div_pow, Nat.testBit_shiftLeft, Nat.testBit_shiftRight]
  by_cases h : j ≥ s
  · rw [decide_eq_true h, show s + (j - s) = j by omega]
  · rw [decide_eq_false h, Bool.false_and, Bool.false_and]
theorem wu_low (v s : Nat) (h : v < 18446744073709551616) : IntKind.u64.wrap ((v : Int) / 2 ^ s * 2 ^ s) = ((v / 2 ^ s * 2 ^ s : Nat) : Int) := by
  have e : (v : Int) / 2 ^ s * 2 ^ s = ((v / 2 ^ s * 2 ^ s : Nat) : Int) := by simp
  have := Nat.div_mul_le_self v (2 ^ s)
  rw [e, wu _ (by omega)]
theorem next_start {w : World} {ob wb n : Nat} {f : Nat → Bool} {vs : List Nat} (h : BitsAt w ob wb n f vs) {i : Nat} (hi : i < n) : NextW f n i (i / 64) (vs.getD (i / 64) 0 / 2 ^ (i % 64) * 2 ^ (i % 64)) := by
  have hs := h.small (i / 64)
  have hd := Nat.div_mul_le_self (vs.getD (i / 64) 0) (2 ^ (i % 64))
  refine ⟨by omega, fun j a b => by omega, fun j hj => ?_, by omega⟩
  rw [low_off]
  have hb := h.bit (64 * (i / 64) + j) (by have := h.len; omega)
  rw [show (64 * (i / 64) + j) / 64 = i / 64 by omega, show (64 * (i / 64) + j) % 64 = j by omega] at hb
  rw [hb]
  congr 1
  rw [decide_eq_decide]
  omega
theorem next_step {w : World} {ob wb n : Nat} {f : Nat → Bool} {vs : List Nat} (h : BitsAt w ob wb n f vs) {i k : Nat} (hk : k + 1 < (n + 63) / 64) (hw : NextW f n i k 0) : NextW f n i (k + 1) (vs.getD (k + 1) 0) := by
  have hl := hw.low
  refine ⟨h.small _, hw.none_, fun j hj => ?_, by omega⟩
  have hb := h.bit (64 * (k + 1) + j) (by have := h.len; omega)
  rw [show (64 * (k + 1) + j) / 64 = k + 1 by omega, show (64 * (k + 1) + j) % 64 = j by omega] at hb
  rw [hb, decide_eq_true (by omega), Bool.true_and]
theorem next_walk {w : World} {ob wb n : Nat} {f : Nat → Bool} {vs : List Nat} (h : BitsAt w ob wb n f vs) (hT : Tb w) {i : Nat} (hi : i < n) : Calls Tryd.prog 69 #[.pointer (some ⟨ob, 0, none⟩), .int .i64 i] w fun e w' => e = .returned (.int .i64 (nextI f n i)) ∧ Drawn0 w w' := by
  have HH := Aside0.mk h
  have HT := Aside0.mk hT
  have hn := h.high
  have c1 : w.cell? ⟨ob, 1, none⟩ = some (.slice (some ⟨wb, 0, none⟩) ((n + 63) / 64) vs.length) := (blk_cell h.ho 1).trans rfl
  have c2 := h.cell (k := i / 64) (by omega)
  have NW := Aside0.mk (next_start h hi)
  have hwu := wu_low (vs.getD (i / 64) 0) (i % 64) (h.small _)
  clear h hT
  generalize vs.getD (i / 64) 0 = v at *
  have g1 : decide (n ≤ i) = false := decide_eq_false (by omega)
  go_enter Tryd.func69, Tryd.ntmps69
  go_wp2_with fail
  refine (len_any HH.out).mono ?_
  rintro e w1 ⟨rfl, rfl⟩
  go_wp2
  rw [hwu]
  clear hwu c2
  generalize v / 2 ^ (i % 64) * 2 ^ (i % 64) = v0 at *
  go_loopg [5, 6] ((n + 63) / 64) (fun kq v5 v6 w' => ∃ k x : Nat, v6 = .int .i64 k ∧ k < (n + 63) / 64 ∧ v5 = .int .u64 x ∧ Aside0 ((n + 63) / 64 - k ≤ kq) ∧ Aside0 (NextW f n i k x) ∧ w = w')
  case atStart => exact ⟨i / 64, v0, rfl, by omega, rfl, ⟨by omega⟩, NW, rfl⟩
  case round =>
    obtain ⟨k, x, rfl, hk, rfl, HQ, HN, rfl⟩ := hrel
    have hxs := HN.out.small
    by_cases hx : x = 0
    · subst hx
      by_cases hlast : k + 1 = (n + 63) / 64
      · have hnone := Aside0.mk (next_none (n := n) (i := (i : Int)) (f := f) (fun j a b => HN.out.none_ j (by omega) (by omega)))
        have g3 : ((k : Int) + 1 == ((n : Int) + 63) / 64) = true := by simp; omega
        go_wp2
        go_ret
        exact ⟨by rw [hnone.out]; rfl, Drawn0.refl _⟩
      · have g3 : ((k : Int) + 1 == ((n : Int) + 63) / 64) = false := by simp; omega
        have hkk : k + 1 < (n + 63) / 64 := by omega
        have c3 := HH.out.cell (k := k + 1) hkk
        have NN := Aside0.mk (next_step HH.out hkk HN.out)
        generalize vs.getD (k + 1) 0 = y at *
        obtain ⟨gk, rfl⟩ : ∃ m, gk = m + 1 := ⟨gk - 1, by have := HQ.out; omega⟩
        go_wp2
        go_roundg gk
        case measure => omega
        case rel => exact ⟨k + 1, y, by go_num, hkk, rfl, ⟨by have := HQ.out; omega⟩, NN, rfl⟩
    · have hf := HN.out.found (by omega) HH.out.out
      have HF := Aside0.mk hf.1
      have ht := hf.2
      have g4 : ((x : Int) != 0) = true := by simp; omega
      have g5 : ((x : Int) == 0) = false := by simp; omega
      have TZ := Aside0.mk (tz_any x (by omega) hxs w HT.out)
      clear hf hxs
      generalize tzN x = t at *
      go_wp2_with fail
      refine TZ.out.mono ?_
      rintro e w1 ⟨rfl, hw⟩
      go_wp2
      go_ret
      exact ⟨by rw [HF.out]; show Ending.returned (.int .i64 ((k : Int) * 64 + (t : Int))) = _; congr 2; omega, hw⟩
theorem next_neg {w : World} {ob wb n : Nat} {f : Nat → Bool} {vs : List Nat} (h : BitsAt w ob wb n f vs) (hT : Tb w) {a : Int} (ha : a < 0) : Calls Tryd.prog 69 #[.pointer (some ⟨ob, 0, none⟩), .int .i64 a] w fun e w' => e = .returned (.int .i64 (nextI f n a)) ∧ Drawn0 w w' := by
  have HH := Aside0.mk h
  have HT := Aside0.mk hT
  have hn := h.high
  have hn1 := h.low
  have c1 : w.cell? ⟨ob, 1, none⟩ = some (.slice (some ⟨wb, 0, none⟩) ((n + 63) / 64) vs.length) := (blk_cell h.ho 1).trans rfl
  have c2 := h.cell (k := 0) (by omega)
  have ns := next_start (i := 0) h (by omega)
  obtain ⟨i, hi⟩ : ∃ i : Nat, i = 0 := ⟨0, rfl⟩
  have ea : nextI f n a = nextI f n (i : Nat) := by unfold nextI; rw [show a.toNat = 0 by omega, hi]; rfl
  rw [ea]
  simp only [Nat.zero_div, Nat.zero_mod, Nat.pow_zero, Nat.div_one, Nat.mul_one] at ns
  have NW : Aside0 (NextW f n i 0 (vs.getD 0 0)) := ⟨by rw [hi]; exact ns⟩
  have hs := Aside0.mk (h.small 0)
  clear h hT ns ea
  generalize vs.getD 0 0 = v at *
  have hwu := wu v hs.out
  clear hs
  have g1 : decide ((0 : Int) ≥ (n : Int)) = false := decide_eq_false (by omega)
  have g7 : ¬ 0 < a := by omega
  clear hi
  go_enter Tryd.func69, Tryd.ntmps69
  go_wp2_with fail
  refine (len_any HH.out).mono ?_
  rintro e w1 ⟨rfl, rfl⟩
  go_wp2
  clear hwu c2
  go_loopg [5, 6] ((n + 63) / 64) (fun kq v5 v6 w' => ∃ k x : Nat, v6 = .int .i64 k ∧ k < (n + 63) / 64 ∧ v5 = .int .u64 x ∧ Aside0 ((n + 63) / 64 - k ≤ kq) ∧ Aside0 (NextW f n i k x) ∧ w = w')
  case atStart => exact ⟨0, v, rfl, by omega, rfl, ⟨by omega⟩, NW, rfl⟩
  case round =>
    obtain ⟨k, x, rfl, hk, rfl, HQ, HN, rfl⟩ := hrel
    have hxs := HN.out.small
    by_cases hx : x = 0
    · subst hx
      by_cases hlast : k + 1 = (n + 63) / 64
      · have hnone := Aside0.mk (next_none (n := n) (i := (i : Int)) (f := f) (fun j a b => HN.out.none_ j (by omega) (by omega)))
        have g3 : ((k : Int) + 1 == ((n : Int) + 63) / 64) = true := by simp; omega
        go_wp2
        go_ret
        exact ⟨by rw [hnone.out]; rfl, Drawn0.refl _⟩
      · have g3 : ((k : Int) + 1 == ((n : Int) + 63) / 64) = false := by simp; omega
        have hkk : k + 1 < (n + 63) / 64 := by omega
        have c3 := HH.out.cell (k := k + 1) hkk
        have NN := Aside0.mk (next_step HH.out hkk HN.out)
        generalize vs.getD (k + 1) 0 = y at *
        obtain ⟨gk, rfl⟩ : ∃ m, gk = m + 1 := ⟨gk - 1, by have := HQ.out; omega⟩
        go_wp2
        go_roundg gk
        case measure => omega
        case rel => exact ⟨k + 1, y, by go_num, hkk, rfl, ⟨by have := HQ.out; omega⟩, NN, rfl⟩
    · have hf := HN.out.found (by omega) HH.out.out
      have HF := Aside0.mk hf.1
      have ht := hf.2
      have g4 : ((x : Int) != 0) = true := by simp; omega
      have g5 : ((x : Int) == 0) = false := by simp; omega
      have TZ := Aside0.mk (tz_any x (by omega) hxs w HT.out)
      clear hf hxs
      generalize tzN x = t at *
      go_wp2_with fail
      refine TZ.out.mono ?_
      rintro e w1 ⟨rfl, hw⟩
      go_wp2
      go_ret
      exact ⟨by rw [HF.out]; show Ending.returned (.int .i64 ((k : Int) * 64 + (t : Int))) = _; congr 2; omega, hw⟩
set_option maxHeartbeats 400000 in
theorem next_far {w : World} {ob wb n : Nat} {f : Nat → Bool} {vs : List Nat} (h : BitsAt w ob wb n f vs) {i : Int} (hi : (n : Int) ≤ i) : Calls Tryd.prog 69 #[.pointer (some ⟨ob, 0, none⟩), .int .i64 i] w fun e w' => e = .returned (.int .i64 (nextI f n i)) ∧ Drawn0 w w' := by
  have HH := Aside0.mk h
  have hl := h.low
  have HN := Aside0.mk (next_none (f := f) (n := n) (i := i) (fun j a b => by omega))
  have g1 : ¬ i < 0 := by omega
  have g2 : decide (i ≥ (n : Int)) = true := decide_eq_true (by omega)
  clear h
  go_enter Tryd.func69, Tryd.ntmps69
  go_wp2_with fail
  refine (len_any HH.out).mono ?_
  rintro e w1 ⟨rfl, rfl⟩
  go_wp2
  go_ret
  exact ⟨by rw [HN.out]; rfl, Drawn0.refl _⟩
theorem next_any {w : World} {ob wb n : Nat} {f : Nat → Bool} {vs : List Nat} (h : BitsAt w ob wb n f vs) (hT : Tb w) (a : Int) : Calls Tryd.prog 69 #[.pointer (some ⟨ob, 0, none⟩), .int .i64 a] w fun e w' => e = .returned (.int .i64 (nextI f n a)) ∧ Drawn0 w w' := by
  by_cases h1 : a < 0
  · exact next_neg h hT h1
  · by_cases h2 : (n : Int) ≤ a
    · exact next_far h h2
    · obtain ⟨i, rfl⟩ := Int.eq_ofNat_of_zero_le (show 0 ≤ a by omega)
      exact next_walk h hT (by omega)
end Go.Proofs.YtbjkncgpoengaaaDoor.G3
