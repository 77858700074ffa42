/- Plain facts on words of 64 bits, as whole numbers: how many bits are on, which one is the first, the last; rows of bits in words. No program in sight. -/
import Derived.Test.YtbjkncgpoengaaaDoorWWords
namespace Go.Proofs.YtbjkncgpoengaaaDoor.G1
set_option linter.unusedVariables false

/-- How many of the first bits are on. -/
def cntF (f : Nat → Bool) : Nat → Nat
  | 0 => 0
  | n + 1 => cntF f n + (if f n then 1 else 0)
theorem cntF_le (f : Nat → Bool) : ∀ n, cntF f n ≤ n := by
  intro n
  induction n with
  | zero => exact Nat.le_refl _
  | succ n ih => simp only [cntF]; split <;> omega
theorem cntF_congr {f g : Nat → Bool} : ∀ {n}, (∀ i, i < n → f i = g i) → cntF f n = cntF g n := by
  intro n
  induction n with
  | zero => intro _; rfl
  | succ n ih => intro h; simp only [cntF]; rw [ih (fun i hi => h i (by omega)), h n (by omega)]
theorem cntF_add (f : Nat → Bool) (a : Nat) : ∀ b, cntF f (a + b) = cntF f a + cntF (fun i => f (a + i)) b := by
  intro b
  induction b with
  | zero => rfl
  | succ b ih => rw [← Nat.add_assoc]; simp only [cntF]; rw [ih]; omega
theorem cntF_none {f : Nat → Bool} : ∀ {n}, (∀ i, i < n → f i = false) → cntF f n = 0 := by
  intro n
  induction n with
  | zero => intro _; rfl
  | succ n ih => intro h; simp only [cntF]; rw [ih (fun i hi => h i (by omega)), h n (by omega)]; rfl
theorem cntF_mono (f : Nat → Bool) {a b : Nat} (h : a ≤ b) : cntF f a ≤ cntF f b := by
  obtain ⟨d, rfl⟩ : ∃ d, b = a + d := ⟨b - a, by omega⟩
  rw [cntF_add]
  omega

/-! How many bits of a word are on: by bytes. -/
def pc (v n : Nat) : Nat := cntF v.testBit n
theorem pc_split (a b i n : Nat) (hb : b < 2 ^ i) : pc (2 ^ i * a + b) (i + n) = pc b i + pc a n := by
  unfold pc
  rw [cntF_add]
  congr 1
  · exact cntF_congr fun j hj => by rw [Nat.testBit_two_pow_mul_add _ hb, if_pos hj]
  · exact cntF_congr fun j hj => by rw [Nat.testBit_two_pow_mul_add _ hb, if_neg (by omega), Nat.add_sub_cancel_left]
theorem and_split (a b c d i : Nat) (hb : b < 2 ^ i) (hd : d < 2 ^ i) : (2 ^ i * a + b) &&& (2 ^ i * c + d) = 2 ^ i * (a &&& c) + (b &&& d) := by
  refine Nat.eq_of_testBit_eq fun j => ?_
  rw [Nat.testBit_and, Nat.testBit_two_pow_mul_add _ hb, Nat.testBit_two_pow_mul_add _ hd, Nat.testBit_two_pow_mul_add _ (Nat.lt_of_le_of_lt Nat.and_le_left hb)]
  split
  · rw [Nat.testBit_and]
  · rw [Nat.testBit_and]
/-- A number by its bytes, the least one first. -/
def hor : List Nat → Nat
  | [] => 0
  | b :: r => 2 ^ 8 * hor r + b
theorem pc_hor : ∀ (l : List Nat), (∀ b ∈ l, b < 256) → pc (hor l) (8 * l.length) = (l.map (pc · 8)).sum := by
  intro l
  induction l with
  | nil => intro _; rfl
  | cons b r ih =>
    intro h
    rw [List.length_cons, show 8 * (r.length + 1) = 8 + 8 * r.length by omega]
    simp only [hor]
    rw [pc_split _ _ _ _ (h b (by simp)), ih (fun x hx => h x (by simp [hx]))]
    simp
def f1 (b : Nat) : Nat := ((b / 2) &&& 85) + (b &&& 85)
def f2 (b : Nat) : Nat := ((b / 4) &&& 51) + (b &&& 51)
def f3 (b : Nat) : Nat := b / 16 + b % 16
theorem small (b : Nat) (h : b < 256) : f1 b < 256 ∧ f2 (f1 b) < 256 ∧ f2 (f1 b) / 16 ≤ 4 ∧ f2 (f1 b) % 16 ≤ 4 ∧ f3 (f2 (f1 b)) = pc b 8 ∧ pc b 8 ≤ 8 ∧
    (∀ q, q < 2 → (128 * q + b / 2) &&& 85 = (b / 2) &&& 85) ∧ (∀ q, q < 4 → (64 * q + b / 4) &&& 51 = (b / 4) &&& 51) := by
  have : ∀ b, b < 256 → f1 b < 256 ∧ f2 (f1 b) < 256 ∧ f2 (f1 b) / 16 ≤ 4 ∧ f2 (f1 b) % 16 ≤ 4 ∧ f3 (f2 (f1 b)) = pc b 8 ∧ pc b 8 ≤ 8 ∧
      (∀ q, q < 2 → (128 * q + b / 2) &&& 85 = (b / 2) &&& 85) ∧ (∀ q, q < 4 → (64 * q + b / 4) &&& 51 = (b / 4) &&& 51) := by decide +kernel
  exact this b h
theorem step1 : ∀ (l : List Nat), (∀ b ∈ l, b < 256) → ((hor l / 2) &&& hor (l.map fun _ => 85)) + (hor l &&& hor (l.map fun _ => 85)) = hor (l.map f1) := by
  intro l
  induction l with
  | nil => intro _; rfl
  | cons b r ih =>
    intro h
    have hb := h b (by simp)
    have h2 := small b hb
    have e : hor (b :: r) / 2 = 2 ^ 8 * (hor r / 2) + (128 * (hor r % 2) + b / 2) := by simp only [hor]; omega
    have hq : 128 * (hor r % 2) + b / 2 < 2 ^ 8 := by omega
    rw [e]
    simp only [List.map_cons, hor]
    rw [and_split _ _ _ _ 8 hq (by omega), and_split _ _ _ _ 8 hb (by omega), h2.2.2.2.2.2.2.1 _ (by omega), ← ih (fun x hx => h x (by simp [hx]))]
    simp only [f1]
    omega
theorem step2 : ∀ (l : List Nat), (∀ b ∈ l, b < 256) → ((hor (l.map f1) / 4) &&& hor (l.map fun _ => 51)) + (hor (l.map f1) &&& hor (l.map fun _ => 51)) = hor (l.map fun b => f2 (f1 b)) := by
  intro l
  induction l with
  | nil => intro _; rfl
  | cons b r ih =>
    intro h
    have hb := h b (by simp)
    have h2 := small b hb
    have h3 := small (f1 b) h2.1
    have e : hor ((b :: r).map f1) / 4 = 2 ^ 8 * (hor (r.map f1) / 4) + (64 * (hor (r.map f1) % 4) + f1 b / 4) := by simp only [List.map_cons, hor]; omega
    have hq : 64 * (hor (r.map f1) % 4) + f1 b / 4 < 2 ^ 8 := by omega
    rw [e]
    simp only [List.map_cons, hor]
    rw [and_split _ _ _ _ 8 hq (by omega), and_split _ _ _ _ 8 h2.1 (by omega), h3.2.2.2.2.2.2.2 _ (by omega), ← ih (fun x hx => h x (by simp [hx]))]
    simp only [f2]
    omega
theorem step3 : ∀ (l : List Nat), (∀ b ∈ l, b < 256) → (hor (l.map fun b => f2 (f1 b)) / 16 + hor (l.map fun b => f2 (f1 b))) &&& hor (l.map fun _ => 15) = hor (l.map (pc · 8)) := by
  intro l
  induction l with
  | nil => intro _; rfl
  | cons b r ih =>
    intro h
    have hb := h b (by simp)
    have h2 := small b hb
    have hm : hor (r.map fun b => f2 (f1 b)) % 16 ≤ 4 := by
      cases r with
      | nil => simp [hor]
      | cons b' r =>
        have := small b' (h b' (by simp))
        simp only [List.map_cons, hor]
        omega
    have e : hor ((b :: r).map fun b => f2 (f1 b)) / 16 + hor ((b :: r).map fun b => f2 (f1 b)) = 2 ^ 8 * (hor (r.map fun b => f2 (f1 b)) / 16 + hor (r.map fun b => f2 (f1 b))) + (16 * (hor (r.map fun b => f2 (f1 b)) % 16) + f2 (f1 b) / 16 + f2 (f1 b)) := by simp only [List.map_cons, hor]; omega
    have hq : 16 * (hor (r.map fun b => f2 (f1 b)) % 16) + f2 (f1 b) / 16 + f2 (f1 b) < 2 ^ 8 := by omega
    rw [e]
    simp only [List.map_cons, hor]
    rw [and_split _ _ _ _ 8 hq (by omega), ih (fun x hx => h x (by simp [hx])), show (15 : Nat) = 2 ^ 4 - 1 by decide, Nat.and_two_pow_sub_one_eq_mod]
    have h5 := h2.2.2.2.2.1
    unfold f3 at h5
    omega
theorem hor_div (b : Nat) (r : List Nat) (h : b < 256) : hor (b :: r) / 256 = hor r := by
  simp only [hor]
  omega
/-- What OnesCount64 computes. -/
def ones (v : Nat) : Nat :=
  let a := ((v / 2) &&& 6148914691236517205) + (v &&& 6148914691236517205)
  let b := ((a / 4) &&& 3689348814741910323) + (a &&& 3689348814741910323)
  let c := (b / 16 + b) &&& 1085102592571150095
  let d := c + c / 256
  let e := d + d / 65536
  let f := e + e / 4294967296
  f % 128
theorem ones_pc (v : Nat) (h : v < 18446744073709551616) : ones v = pc v 64 := by
  obtain ⟨b0, b1, b2, b3, b4, b5, b6, b7, hb, e⟩ : ∃ b0 b1 b2 b3 b4 b5 b6 b7, (b0 < 256 ∧ b1 < 256 ∧ b2 < 256 ∧ b3 < 256 ∧ b4 < 256 ∧ b5 < 256 ∧ b6 < 256 ∧ b7 < 256) ∧ v = hor [b0, b1, b2, b3, b4, b5, b6, b7] :=
    ⟨v % 256, v / 256 % 256, v / 65536 % 256, v / 16777216 % 256, v / 4294967296 % 256, v / 1099511627776 % 256, v / 281474976710656 % 256, v / 72057594037927936 % 256, by omega, by simp only [hor]; omega⟩
  have hall : ∀ b ∈ [b0, b1, b2, b3, b4, b5, b6, b7], b < 256 := by
    intro b hm
    simp only [List.mem_cons, List.not_mem_nil, or_false] at hm
    omega
  have s1 := step1 _ hall
  have s2 := step2 _ hall
  have s3 := step3 _ hall
  have s4 := pc_hor _ hall
  have p0 := (small b0 (by omega)).2.2.2.2.2.1
  have p1 := (small b1 (by omega)).2.2.2.2.2.1
  have p2 := (small b2 (by omega)).2.2.2.2.2.1
  have p3 := (small b3 (by omega)).2.2.2.2.2.1
  have p4 := (small b4 (by omega)).2.2.2.2.2.1
  have p5 := (small b5 (by omega)).2.2.2.2.2.1
  have p6 := (small b6 (by omega)).2.2.2.2.2.1
  have p7 := (small b7 (by omega)).2.2.2.2.2.1
  rw [← e] at s1 s4
  unfold ones
  simp only
  rw [show (6148914691236517205 : Nat) = hor ([b0, b1, b2, b3, b4, b5, b6, b7].map fun _ => 85) by simp [hor], s1, show (3689348814741910323 : Nat) = hor ([b0, b1, b2, b3, b4, b5, b6, b7].map fun _ => 51) by simp [hor], s2, show (1085102592571150095 : Nat) = hor ([b0, b1, b2, b3, b4, b5, b6, b7].map fun _ => 15) by simp [hor], s3]
  rw [show 64 = 8 * [b0, b1, b2, b3, b4, b5, b6, b7].length by simp, s4]
  simp only [List.map_cons, List.map_nil, List.sum_cons, List.sum_nil]
  generalize pc b0 8 = x0 at *
  generalize pc b1 8 = x1 at *
  generalize pc b2 8 = x2 at *
  generalize pc b3 8 = x3 at *
  generalize pc b4 8 = x4 at *
  generalize pc b5 8 = x5 at *
  generalize pc b6 8 = x6 at *
  generalize pc b7 8 = x7 at *
  clear s1 s2 s3 s4 hall hb e h
  rw [hor_div x0 _ (by omega), show hor [x0, x1, x2, x3, x4, x5, x6, x7] + hor [x1, x2, x3, x4, x5, x6, x7] = hor [x0 + x1, x1 + x2, x2 + x3, x3 + x4, x4 + x5, x5 + x6, x6 + x7, x7] by simp only [hor]; omega]
  rw [show (65536 : Nat) = 256 * 256 from rfl, ← Nat.div_div_eq_div_mul, hor_div (x0 + x1) _ (by omega), hor_div (x1 + x2) _ (by omega)]
  rw [show hor [x0 + x1, x1 + x2, x2 + x3, x3 + x4, x4 + x5, x5 + x6, x6 + x7, x7] + hor [x2 + x3, x3 + x4, x4 + x5, x5 + x6, x6 + x7, x7] = hor [x0 + x1 + (x2 + x3), x1 + x2 + (x3 + x4), x2 + x3 + (x4 + x5), x3 + x4 + (x5 + x6), x4 + x5 + (x6 + x7), x5 + x6 + x7, x6 + x7, x7] by simp only [hor]; omega]
  rw [show (4294967296 : Nat) = 256 * 256 * 256 * 256 from rfl, ← Nat.div_div_eq_div_mul, ← Nat.div_div_eq_div_mul, ← Nat.div_div_eq_div_mul, hor_div (x0 + x1 + (x2 + x3)) _ (by omega), hor_div (x1 + x2 + (x3 + x4)) _ (by omega), hor_div (x2 + x3 + (x4 + x5)) _ (by omega), hor_div (x3 + x4 + (x5 + x6)) _ (by omega)]
  have hl : ∀ (a b : Nat) (r s : List Nat), (hor (a :: r) + hor (b :: s)) % 128 = (a + b) % 128 := by
    intro a b r s
    simp only [hor]
    omega
  rw [hl]
  omega

/-! The first bit that is on. -/
theorem odd_part : ∀ (v : Nat), 0 < v → ∃ t q, v = 2 ^ t * (2 * q + 1) := by
  intro v
  induction v using Nat.strongRecOn with
  | _ v ih =>
    intro h
    by_cases he : v % 2 = 1
    · exact ⟨0, v / 2, by omega⟩
    · obtain ⟨t, q, e⟩ := ih (v / 2) (by omega) (by omega)
      exact ⟨t + 1, q, by rw [Nat.pow_succ, Nat.mul_assoc, Nat.mul_comm (2 ^ t), Nat.mul_assoc, Nat.mul_comm _ (2 ^ t), ← e]; omega⟩
/-- The first one of so many bits, from one on; none: as many. -/
def firstF (f : Nat → Bool) : Nat → Nat → Nat
  | 0, i => i
  | n + 1, i => if f i then i else firstF f n (i + 1)
theorem first_is {f : Nat → Bool} {t : Nat} (ht : f t = true) : ∀ (n i : Nat), i ≤ t → t < i + n → (∀ j, i ≤ j → j < t → f j = false) → firstF f n i = t := by
  intro n
  induction n with
  | zero => intro i h1 h2; omega
  | succ n ih =>
    intro i h1 h2 h3
    simp only [firstF]
    by_cases e : i = t
    · subst e; rw [if_pos ht]
    · rw [if_neg (by rw [h3 i (by omega) (by omega)]; decide), ih (i + 1) (by omega) (by omega) (fun j hj => h3 j (by omega))]
theorem first_none {f : Nat → Bool} : ∀ (n i : Nat), (∀ j, i ≤ j → j < i + n → f j = false) → firstF f n i = i + n := by
  intro n
  induction n with
  | zero => intro i _; rfl
  | succ n ih =>
    intro i h
    simp only [firstF]
    rw [if_neg (by rw [h i (by omega) (by omega)]; decide), ih (i + 1) (fun j hj hj2 => h j (by omega) (by omega))]
    omega
def tzN (v : Nat) : Nat := firstF v.testBit 64 0
theorem tz_is (v : Nat) (h0 : 0 < v) (h : v < 18446744073709551616) : tzN v < 64 ∧ v.testBit (tzN v) = true ∧ (∀ j, j < tzN v → v.testBit j = false) ∧ v &&& (18446744073709551616 - v) = 2 ^ tzN v := by
  obtain ⟨t, q, e⟩ := odd_part v h0
  have ht : t < 64 := by
    refine Nat.lt_of_not_le fun hc => ?_
    have h1 : 2 ^ 64 ≤ 2 ^ t := Nat.pow_le_pow_right (by omega) hc
    have h2 : 2 ^ t * 1 ≤ 2 ^ t * (2 * q + 1) := Nat.mul_le_mul_left _ (by omega)
    omega
  have hv : ∀ j, v.testBit j = if j < t + 1 then decide (t = j) else q.testBit (j - (t + 1)) := by
    intro j
    rw [e, show 2 ^ t * (2 * q + 1) = 2 ^ (t + 1) * q + 2 ^ t by rw [Nat.pow_succ, Nat.mul_add, Nat.mul_one, Nat.mul_assoc], Nat.testBit_two_pow_mul_add _ (Nat.pow_lt_pow_right (by omega) (by omega)), Nat.testBit_two_pow]
  have hw : ∀ j, (v - 1).testBit j = if j < t + 1 then decide (j < t) else q.testBit (j - (t + 1)) := by
    intro j
    have hp : 0 < 2 ^ t := Nat.two_pow_pos t
    have hp2 : 2 ^ (t + 1) = 2 ^ t + 2 ^ t := by rw [Nat.pow_succ]; omega
    rw [show v - 1 = 2 ^ (t + 1) * q + (2 ^ t - 1) by rw [e, show 2 ^ t * (2 * q + 1) = 2 ^ (t + 1) * q + 2 ^ t by rw [Nat.pow_succ, Nat.mul_add, Nat.mul_one, Nat.mul_assoc]]; omega, Nat.testBit_two_pow_mul_add _ (by omega), Nat.testBit_two_pow_sub_one]
  have hz : tzN v = t := first_is (by rw [hv, if_pos (by omega)]; simp) 64 0 (by omega) (by omega) (fun j _ hj => by rw [hv, if_pos (by omega)]; simp; omega)
  rw [hz]
  refine ⟨ht, by rw [hv, if_pos (by omega)]; simp, fun j hj => by rw [hv, if_pos (by omega)]; simp; omega, ?_⟩
  refine Nat.eq_of_testBit_eq fun j => ?_
  rw [Nat.testBit_and, show 18446744073709551616 - v = 2 ^ 64 - ((v - 1) + 1) by omega, Nat.testBit_two_pow_sub_succ (by omega), hv, hw, Nat.testBit_two_pow]
  by_cases h1 : j < t + 1
  · rw [if_pos h1, if_pos h1]
    by_cases h2 : t = j
    · subst h2; simp; omega
    · simp [h2]
  · rw [if_neg h1, if_neg h1]
    have : ¬ t = j := by omega
    simp [this]
    intro hq
    simp [hq]
end Go.Proofs.YtbjkncgpoengaaaDoor.G1
