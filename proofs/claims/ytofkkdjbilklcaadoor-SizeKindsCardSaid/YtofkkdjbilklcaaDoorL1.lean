/- Tables and small functions of the package level: TrailingZeros64 of a power, Height, bound, Upper, Lower, For. -/
import Derived.Test.YtofkkdjbilklcaaDoorQ1
import Derived.Lib.Hide
namespace Go.Proofs.YtofkkdjbilklcaaDoor.L1
open Go.RowKit Go.Proofs.YtofkkdjbilklcaaDoorW.PrintWords Go.Proofs.YtofkkdjbilklcaaDoorW.PrintLast Go.Proofs.YtofkkdjbilklcaaDoorW.PrintMore Q1
set_option linter.unusedVariables false
set_option linter.unusedSimpArgs false

def tab64 : List Int := [0, 1, 56, 2, 57, 49, 28, 3, 61, 58, 42, 50, 38, 29, 17, 4, 62, 47, 59, 36, 45, 43, 51, 22, 53, 39, 33, 30, 24, 18, 12, 5, 63, 55, 48, 27, 60, 41, 37, 16, 46, 35, 44, 21, 52, 32, 23, 11, 54, 26, 40, 15, 34, 20, 31, 10, 25, 14, 19, 9, 13, 8, 7, 6]
/-- The table lies in its variable. -/
abbrev Tb (w : World) : Prop := Kd.C (Kd.int .u8) w (some ⟨1, 0, none⟩) 64 tab64

theorem tz64_any (x : Int) (j : Int) (hx0 : (x == 0) = false) (i : Nat) (hi : i < 64) (hj : IntKind.u64.wrap ((Go.bits .and .u64 x (IntKind.u64.wrap (-x))) * 285870213051353865) / 288230376151711744 = i) (ht : rd tab64 i = j) (hj0 : 0 ≤ j) (hj1 : j < 64) (w : World) (hT : Tb w) :
    Calls Tryd.prog 133 #[.int .u64 x] w fun e w' => e = .returned (.int .i64 j) ∧ Drawn0 w w' := by
  obtain ⟨ad, e, hx⟩ := Kd.at_int hT (i : Int) (by omega) (by omega)
  cases e
  rw [Int.toNat_natCast, ht] at hx
  have hx' : w.cell? ⟨1, i, none⟩ = some (.int .u8 j) := by
    have e2 : (⟨1, 0, none⟩ : Addr).add i = ⟨1, i, none⟩ := by unfold Addr.add; split <;> simp_all
    rw [← e2]
    exact hx
  clear hx
  have hw : IntKind.i64.wrap j = j := by simp [IntKind.wrap, IntKind.signed, IntKind.bits]; omega
  go_enter Tryd.func133, Tryd.ntmps133
  go_wp2
  go_ret
  exact ⟨by first | rfl | simp [hw], by repeat (first | exact Drawn0.refl _ | apply Drawn0.step)⟩
theorem tz_any (x : Int) (j : Int) (hx0 : (x == 0) = false) (hxr : 0 ≤ x ∧ x < 18446744073709551616) (i : Nat) (hi : i < 64) (hj : IntKind.u64.wrap ((Go.bits .and .u64 x (IntKind.u64.wrap (-x))) * 285870213051353865) / 288230376151711744 = i) (ht : rd tab64 i = j) (hj0 : 0 ≤ j) (hj1 : j < 64) (w : World) (hT : Tb w) :
    Calls Tryd.prog 98 #[.int .u64 x] w fun e w' => e = .returned (.int .i64 j) ∧ Drawn0 w w' := by
  have HT := Aside0.mk hT
  clear hT
  go_enter Tryd.func98, Tryd.ntmps98
  go_wp2_with fail
  refine (tz64_any x j hx0 i hi hj ht hj0 hj1 _ HT.out).mono ?_
  rintro e w' ⟨rfl, hw⟩
  go_wp2
  go_ret
  exact ⟨rfl, hw⟩

/-! The capacities. -/
def capB (s : Int) : Bool := decide (s = 32 ∨ s = 64 ∨ s = 128 ∨ s = 256 ∨ s = 512 ∨ s = 1024 ∨ s = 2048 ∨ s = 4096)
set_option maxRecDepth 100000 in
theorem may_small : ∀ i : Nat, i < 4097 → level_May.f (i : Int) = some (capB i) := by decide +kernel
theorem may_f (s : Int) : level_May.f s = some (capB s) := by
  by_cases h : 0 ≤ s ∧ s < 4097
  · obtain ⟨i, rfl⟩ := Int.eq_ofNat_of_zero_le h.1
    exact may_small i (by omega)
  · have e : capB s = false := decide_eq_false (by omega)
    rw [e]
    simp only [level_May.f, level_between.f]
    by_cases h1 : s ≥ 32
    · rw [if_pos h1, decide_eq_false (show ¬ s ≤ 4096 by omega)]; rfl
    · rw [if_neg h1]; rfl
theorem may_any (s : Int) (w : World) : Calls Tryd.prog 55 #[.int .i64 s] w fun e w' => e = .returned (.bool (capB s)) ∧ Drawn0 w w' := level_May.calls s _ w (may_f s)

/-- The height of a capacity. -/
def hgt (s : Int) : Int := if s = 32 then 2 else if s = 64 then 3 else if s = 128 then 4 else if s = 256 then 5 else if s = 512 then 6 else if s = 1024 then 7 else if s = 2048 then 8 else if s = 4096 then 9 else 0
def tzAt (s : Int) : Nat := ((IntKind.u64.wrap ((Go.bits .and .u64 (s / 8) (IntKind.u64.wrap (-(s / 8)))) * 285870213051353865)) / 288230376151711744).toNat
theorem tz_small : ∀ s ∈ ([32, 64, 128, 256, 512, 1024, 2048, 4096] : List Int), tzAt s < 64 ∧ IntKind.u64.wrap ((Go.bits .and .u64 (s / 8) (IntKind.u64.wrap (-(s / 8)))) * 285870213051353865) / 288230376151711744 = tzAt s ∧ rd tab64 (tzAt s) = hgt s ∧ 0 ≤ hgt s ∧ hgt s < 64 ∧ (s / 8 == 0) = false ∧ IntKind.i64.wrap (s.tdiv 8) = s / 8 ∧ IntKind.u64.wrap (s / 8) = s / 8 ∧ 0 ≤ s / 8 ∧ s / 8 < 18446744073709551616 := by decide +kernel
theorem cap_mem {s : Int} (h : capB s = true) : s ∈ ([32, 64, 128, 256, 512, 1024, 2048, 4096] : List Int) := by
  have := of_decide_eq_true h
  simp only [List.mem_cons, List.not_mem_nil, or_false]
  exact this
theorem drawn_step {w w1 w2 : World} (h : Drawn0 w w1) (h2 : Drawn0 w1 w2) : Drawn0 w w2 := by
  obtain ⟨n1, rfl⟩ := h
  obtain ⟨n2, rfl⟩ := h2
  exact ⟨n1 + n2, by simp [Nat.add_assoc]⟩
theorem height_any (s : Int) (w : World) (hT : Tb w) : Calls Tryd.prog 57 #[.int .i64 s] w fun e w' => e = .returned (.tuple #[.int .i64 (hgt s), .int .i64 (if capB s then 0 else 10)]) ∧ Drawn0 w w' := by
  cases hc : capB s with
  | false =>
    have hn : hgt s = 0 := by
      have := of_decide_eq_false hc
      unfold hgt
      repeat rw [if_neg (by omega)]
    rw [hn, if_neg (by decide)]
    have h1 := may_any s w
    rw [hc] at h1
    clear hT
    go_enter Tryd.func57, Tryd.ntmps57
    go_wp2_with fail
    refine h1.mono ?_
    rintro e w1 ⟨rfl, hw⟩
    go_wp2
    go_ret2
    exact ⟨rfl, hw⟩
  | true =>
    obtain ⟨a1, a2, a3, a4, a5, a6, a7, a8, a9, a10⟩ := tz_small s (cap_mem hc)
    rw [if_pos rfl]
    have h1 := may_any s w
    rw [hc] at h1
    have h2 := fun w2 (h : Tb w2) => tz_any (s / 8) (hgt s) a6 ⟨a9, a10⟩ _ a1 a2 a3 a4 a5 w2 h
    have HT := Aside0.mk hT
    clear hT a1 a2 a3 a4 a5 a6 a9 a10
    go_enter Tryd.func57, Tryd.ntmps57
    go_wp2_with fail
    refine h1.mono ?_
    rintro e w1 ⟨rfl, hw⟩
    replace HT := Aside0.mk (Kd.C_below HT.out hw.below)
    go_wp2_with fail
    refine (h2 _ HT.out).mono ?_
    rintro e w2 ⟨rfl, hw2⟩
    go_wp2
    go_ret2
    exact ⟨rfl, drawn_step hw hw2⟩

/-! The bounds. -/
def mayB (l h : Int) : Bool := decide (2 ≤ h ∧ h ≤ 9 ∧ 0 ≤ l ∧ l ≤ h)
def manyN (l h : Int) : Int := (7 * h - 2 * l) * 2 ^ l.toNat
def fewN (l h : Int) : Int := if h = 2 then 0 else (h + l) * 2 ^ l.toNat
theorem lmay_f (l h : Int) : level_may.f l h = some (mayB l h) := by
  simp only [level_may.f, level_between.f]
  by_cases h1 : h ≥ 2
  · rw [if_pos h1]
    by_cases h2 : h ≤ 9
    · rw [decide_eq_true h2]
      by_cases h3 : l ≥ 0
      · rw [if_pos h3]
        simp [mayB, h1, h2, h3]
      · rw [if_neg h3]
        simp [mayB, h1, h2, h3]
    · rw [decide_eq_false h2]
      simp [mayB, h2]
  · rw [if_neg h1]
    simp [mayB, h1]
theorem lmay_any (l h : Int) (w : World) : Calls Tryd.prog 99 #[.int .i64 l, .int .i64 h] w fun e w' => e = .returned (.bool (mayB l h)) ∧ Drawn0 w w' := level_may.calls l h _ w (lmay_f l h)
theorem dom {p : Int → Int → Prop} (hp : ∀ h : Nat, h < 10 → 2 ≤ h → ∀ l : Nat, l < h + 1 → p l h) {l h : Int} (hm : mayB l h = true) : p l h := by
  have := of_decide_eq_true hm
  obtain ⟨hn, rfl⟩ := Int.eq_ofNat_of_zero_le (show 0 ≤ h by omega)
  obtain ⟨ln, rfl⟩ := Int.eq_ofNat_of_zero_le (show 0 ≤ l by omega)
  exact hp hn (by omega) (by omega) ln (by omega)
theorem many_f {l h : Int} (hm : mayB l h = true) : level_many.f l h = some (manyN l h) := dom (p := fun l h => level_many.f l h = some (manyN l h)) (by decide +kernel) hm
theorem few_f {l h : Int} (hm : mayB l h = true) : level_few.f l h = some (fewN l h) := dom (p := fun l h => level_few.f l h = some (fewN l h)) (by decide +kernel) hm
def tellB (n k : Int) : Bool := decide (k * n ≤ manyN k k)
/-- A callee that only reads, inside a region that draws. -/
theorem quiet_drawn {P : Program} {f : FuncId} {args : Array Value} {w : World} {n : Nat} {v : Value} (h : Calls P f args (w.drewN n) fun e w' => e = .returned v ∧ Drawn0 (w.drewN n) w') :
    Calls P f args (w.drewN n) fun e w'' => e = .returned v ∧ ∃ m, w'' = w.drewN m :=
  Calls.quiet_of (h.mono fun _ _ ⟨he, hm⟩ => ⟨he, hm.out⟩)
theorem tell_f {k : Int} (hk : 2 ≤ k ∧ k ≤ 9) : level_many.f k k = some (manyN k k) ∧ 0 ≤ manyN k k ∧ manyN k k ≤ 100000 := by
  obtain ⟨kn, rfl⟩ := Int.eq_ofNat_of_zero_le (show 0 ≤ k by omega)
  have : ∀ q : Nat, q < 10 → 2 ≤ q → level_many.f q q = some (manyN q q) ∧ 0 ≤ manyN q q ∧ manyN q q ≤ 100000 := by decide +kernel
  exact this kn (by omega) (by omega)
theorem wr64 {x : Int} (h : -9223372036854775808 ≤ x) (h2 : x ≤ 9223372036854775807) : IntKind.i64.wrap x = x := by
  simp [IntKind.wrap, IntKind.signed, IntKind.bits]; omega
theorem tell_any (n k : Int) (hk : 2 ≤ k ∧ k ≤ 9) (hn : 0 ≤ n ∧ n ≤ 2560) (q : Nat) (w : World) (hq : w.heap[q]? = some (.cells #[.int .i64 n] 3 (0, 0))) :
    Calls Tryd.prog 126 #[.int .i64 k, .pointer (some ⟨q, 0, none⟩)] w fun e w' => e = .returned (.bool (tellB n k)) ∧ Drawn0 w w' := by
  obtain ⟨hf, m0, m1⟩ := tell_f hk
  have hc := level_many.calls k k _ w hf
  have c1 : w.cell? ⟨q, 0, none⟩ = some (.int .i64 n) := (blk_cell hq 0).trans rfl
  have hb : (k * n ≤ manyN k k) = (tellB n k = true) := by simp [tellB]
  have hw : IntKind.i64.wrap (k * n) = k * n := by
    have h1 : 0 ≤ k * n := Int.mul_nonneg (by omega) hn.1
    have h2 : k * n ≤ 9 * 2560 := Int.mul_le_mul hk.2 hn.2 hn.1 (by omega)
    exact wr64 (by omega) (by omega)
  generalize hm : manyN k k = M at *
  have hd : decide (k * n ≤ M) = tellB n k := by subst hm; rfl
  clear hc
  go_enter Tryd.func126, Tryd.ntmps126
  go_wp2
  go_quiet (exact quiet_drawn (level_many.calls k k _ _ hf))
  go_wp2
  go_ret
  exact ⟨rfl, ⟨⟨_, rfl⟩⟩⟩
def forR (n : Int) : Nat → Nat → Int
  | 0, _ => 4096
  | q + 1, k => if tellB n (2 + k) then 8 * 2 ^ (2 + k) else forR n q (k + 1)
def forN (n : Int) : Int := if n < 0 then 0 else if n > 2560 then 0 else forR n 7 0
def forE (n : Int) : Int := if n < 0 then 10 else if n > 2560 then 16 else 0
theorem for_any (n : Int) (w : World) : Calls Tryd.prog 93 #[.int .i64 n] w fun e w' => e = .returned (.tuple #[.int .i64 (forN n), .int .i64 (forE n)]) ∧ Below w.heap.size w w' := by
  unfold forN forE
  by_cases h1 : n < 0
  · have c1 : decide (n < 0) = true := decide_eq_true h1
    rw [if_pos h1, if_pos h1]
    go_enter Tryd.func93, Tryd.ntmps93
    go_wp2
    go_ret2
    exact ⟨rfl, below_alloc (Below.refl _ w) _⟩
  · rw [if_neg h1, if_neg h1]
    by_cases h2 : n > 2560
    · have c1 : decide (n < 0) = false := decide_eq_false h1
      have c2 : decide (n > 2560) = true := decide_eq_true h2
      rw [if_pos h2, if_pos h2]
      go_enter Tryd.func93, Tryd.ntmps93
      go_wp2
      go_ret2
      exact ⟨rfl, below_alloc (Below.refl _ w) _⟩
    · rw [if_neg h2, if_neg h2]
      have hn : 0 ≤ n ∧ n ≤ 2560 := by omega
      have c1 : decide (n < 0) = false := decide_eq_false h1
      have c2 : decide (n > 2560) = false := decide_eq_false h2
      clear h1 h2
      go_enter Tryd.func93, Tryd.ntmps93
      go_wp2
      have HQ := Aside0.mk (blk_new w (.cells #[.int .i64 n] 3))
      have HB := Aside0.mk (below_alloc (Below.refl w.heap.size w) (.cells #[.int .i64 n] 3))
      have HN := Aside0.mk hn
      clear hn
      go_loopg [13] 7 (fun kq vi w' => ∃ i : Nat, vi = .int .i64 i ∧ i ≤ 7 ∧ Aside0 (kq = 7 - i) ∧ Aside0 (forR n kq i = forR n 7 0) ∧ Aside0 (w'.heap[w.heap.size]? = some (.cells #[.int .i64 n] 3 (0, 0))) ∧ Aside0 (Below w.heap.size w w'))
      case atStart => exact ⟨0, rfl, by omega, ⟨by omega⟩, ⟨rfl⟩, HQ, HB⟩
      case round =>
        clear HQ HB
        obtain ⟨i, rfl, hi, HKQ, HA, HQ, HB⟩ := hrel
        by_cases hlt : i < 7
        · have hk : gk = (6 - i) + 1 := by have := HKQ.out; omega
          have ha := HA.out
          rw [hk, forR] at ha
          have HT := Aside0.mk (fun W => tell_any n (2 + (i : Int)) (by omega) HN.out w.heap.size W)
          have hsh : IntKind.i64.wrap (8 * 2 ^ (2 + (i : Int)).toNat) = 8 * 2 ^ (2 + i) := by
            have : ∀ j : Nat, j < 7 → IntKind.i64.wrap (8 * 2 ^ (2 + (j : Int)).toNat) = 8 * 2 ^ (2 + j) := by decide +kernel
            exact this i hlt
          cases ht : tellB n (2 + (i : Int)) with
          | true =>
            rw [ht] at HT
            rw [ht, if_pos rfl] at ha
            go_wp2_with fail
            refine (HT.out _ HQ.out).mono ?_
            rintro e w1 ⟨rfl, hw⟩
            have hb := hw.below
            go_wp2
            go_ret2
            exact ⟨rfl, below_step HB.out hb⟩
          | false =>
            rw [ht] at HT
            rw [ht, if_neg (by decide)] at ha
            go_wp2_with fail
            refine (HT.out _ HQ.out).mono ?_
            rintro e w1 ⟨rfl, hw⟩
            have hb := hw.below
            go_wp2
            go_roundg (7 - (i + 1))
            case measure => have := HKQ.out; omega
            case rel =>
              refine ⟨i + 1, by go_num, by omega, ⟨rfl⟩, ⟨by rw [show 7 - (i + 1) = 6 - i by omega]; exact ha⟩, ⟨blk_below HQ.out hb⟩, ⟨below_step HB.out hb⟩⟩
        · have ha : 4096 = forR n 7 0 := by
            have h1 := HA.out
            have hk := HKQ.out
            rw [hk, show 7 - i = 0 by omega, forR] at h1
            exact h1
          have HA2 := Aside0.mk ha
          have hl : decide ((i : Int) < 7) = false := decide_eq_false (by omega)
          clear ha
          go_wp2
          go_ret2
          exact ⟨by rw [← HA2.out]; rfl, HB.out⟩

/-! The chapter's examples. -/
def sgN (s : Int) : Int := if capB s then s / 8 else 0
def cpE (s : Int) : Int := if capB s then 0 else 10
theorem segs_f (s : Int) : level_Segs.f s = some (sgN s, cpE s) := by
  simp only [level_Segs.f, may_f, sgN, cpE, Option.bind_some]
  cases hc : capB s with
  | false => rfl
  | true =>
    rw [if_pos rfl, if_pos rfl, if_pos rfl]
    have hw := (tz_small s (cap_mem hc)).2.2.2.2.2.2.1
    rw [show wrap64 (s.tdiv 8) = s / 8 by rw [← hw]; simp [wrap64, IntKind.wrap, IntKind.signed, IntKind.bits] at hw ⊢; split <;> omega]
theorem segs_any (s : Int) (w : World) : Calls Tryd.prog 125 #[.int .i64 s] w fun e w' => e = .returned (.tuple #[.int .i64 (sgN s), .int .i64 (cpE s)]) ∧ Drawn0 w w' := level_Segs.calls s _ _ w (segs_f s)
theorem h64 (w : World) (hT : Tb w) : Calls Tryd.prog 57 #[.int .i64 64] w fun e w' => e = .returned (.tuple #[.int .i64 3, .int .i64 0]) ∧ Drawn0 w w' := by
  have h := height_any 64 w hT
  exact h
theorem s64 (w : World) : Calls Tryd.prog 125 #[.int .i64 64] w fun e w' => e = .returned (.tuple #[.int .i64 8, .int .i64 0]) ∧ Drawn0 w w' := by
  have h := segs_any 64 w
  exact h
end Go.Proofs.YtofkkdjbilklcaaDoor.L1
