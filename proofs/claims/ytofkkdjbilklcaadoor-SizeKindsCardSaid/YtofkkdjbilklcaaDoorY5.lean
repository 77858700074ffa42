/- Which numbers fit a capacity; what the document says of it. -/
import Derived.Test.YtofkkdjbilklcaaDoorY4
namespace Go.Proofs.YtofkkdjbilklcaaDoor.Y5
open Go.RowKit Go.Shelf Go.Proofs.YtofkkdjbilklcaaDoorW.PrintWords Go.Proofs.YtofkkdjbilklcaaDoorW.PrintLast Go.Proofs.YtofkkdjbilklcaaDoorW.PrintMore Q1 S1 Y1 Y3 Y2 Y4
open L1 hiding Tb tab64
set_option linter.unusedVariables false
set_option linter.unusedSimpArgs false
theorem w64r {x : Int} (h : -9223372036854775808 ≤ x) (h2 : x ≤ 9223372036854775807) : wrap64 x = x := by
  unfold wrap64; omega
def withN (n l h : Int) : Int := if h * n > manyN l h then 1 else if h * n < fewN l h then -1 else 0
def wiN (n l h : Int) : Int := if mayB l h = false then 0 else if n < 0 then 0 else withN n l h
def wiE (n l h : Int) : Int := if mayB l h = false then 10 else if n < 0 then 1 else 0
theorem many_small1 {l h : Int} (hm : mayB l h = true) : 0 ≤ manyN l h ∧ manyN l h ≤ 3584 * h ∧ 0 ≤ fewN l h ∧ fewN l h ≤ 1024 * h :=
  dom (p := fun l h => 0 ≤ manyN l h ∧ manyN l h ≤ 3584 * h ∧ 0 ≤ fewN l h ∧ fewN l h ≤ 1024 * h) (by decide +kernel) hm
theorem many_small2 {l h : Int} (hm : mayB l h = true) : punnetref03_Power.f 19 l = some (2 ^ l.toNat) ∧ punnetref03_Power.f 18 l = some (2 ^ l.toNat) :=
  dom (p := fun l h => punnetref03_Power.f 19 l = some (2 ^ l.toNat) ∧ punnetref03_Power.f 18 l = some (2 ^ l.toNat)) (by decide +kernel) hm
theorem many_small3 {l h : Int} (hm : mayB l h = true) : wrap64 (2 ^ l.toNat * wrap64 (wrap64 (7 * h) - wrap64 (2 * l))) = manyN l h ∧ wrap64 (2 ^ l.toNat * wrap64 (h + l)) = (h + l) * 2 ^ l.toNat :=
  dom (p := fun l h => wrap64 (2 ^ l.toNat * wrap64 (wrap64 (7 * h) - wrap64 (2 * l))) = manyN l h ∧ wrap64 (2 ^ l.toNat * wrap64 (h + l)) = (h + l) * 2 ^ l.toNat) (by decide +kernel) hm
theorem many_small {l h : Int} (hm : mayB l h = true) : (0 ≤ manyN l h ∧ manyN l h ≤ 3584 * h ∧ 0 ≤ fewN l h ∧ fewN l h ≤ 1024 * h) ∧ punnetref03_Power.f 19 l = some (2 ^ l.toNat) ∧ punnetref03_Power.f 18 l = some (2 ^ l.toNat) ∧ wrap64 (2 ^ l.toNat * wrap64 (wrap64 (7 * h) - wrap64 (2 * l))) = manyN l h ∧ wrap64 (2 ^ l.toNat * wrap64 (h + l)) = (h + l) * 2 ^ l.toNat :=
  ⟨many_small1 hm, (many_small2 hm).1, (many_small2 hm).2, many_small3 hm⟩
theorem mul_bounds {n h : Int} (h2 : 2 ≤ h) (h9 : h ≤ 9) (hn : 0 ≤ n) : 2 * n ≤ h * n ∧ h * n ≤ 9 * n := ⟨Int.mul_le_mul_of_nonneg_right h2 hn, Int.mul_le_mul_of_nonneg_right h9 hn⟩
theorem j0_eq (n l h : Int) (b : Bool) : level_Within.j0 20 n l h b = if b = true then some (1, 0) else ((level_few.f l h).bind fun t110 => if wrap64 (h * n) < t110 then some (-1, 0) else some (0, 0)) := rfl
theorem within_f (n l h : Int) : level_Within.f 20 n l h = some (wiN n l h, wiE n l h) := by
  unfold wiN wiE level_Within.f
  rw [lmay_f, Option.bind_some]
  cases hm : mayB l h with
  | false => simp
  | true =>
    have hd := of_decide_eq_true hm
    obtain ⟨hb, _, _, _⟩ := many_small hm
    show (if n < 0 then some (0, 1) else if n > 4096 then level_Within.j0 20 n l h true else (level_many.f l h).bind fun t109 => level_Within.j0 20 n l h (decide (wrap64 (h * n) > t109))) = some (if n < 0 then 0 else withN n l h, if n < 0 then 1 else 0)
    by_cases h0 : n < 0
    · rw [if_pos h0, if_pos h0, if_pos h0]
    · rw [if_neg h0, if_neg h0, if_neg h0]
      have hmul := mul_bounds (n := n) hd.1 hd.2.1 (by omega)
      by_cases h1 : n > 4096
      · rw [if_pos h1]
        have : h * n > manyN l h := by
          have : h * 4097 ≤ h * n := Int.mul_le_mul_of_nonneg_left (by omega) (by omega)
          omega
        unfold withN
        rw [if_pos this]
        rfl
      · rw [if_neg h1, many_f hm, Option.bind_some, w64r (by omega) (by omega)]
        unfold withN
        rw [j0_eq]
        by_cases h2 : h * n > manyN l h
        · rw [decide_eq_true h2, if_pos h2]; rfl
        · rw [decide_eq_false h2, if_neg h2, if_neg Bool.false_ne_true, few_f hm, Option.bind_some, w64r (by omega) (by omega)]
          by_cases h3 : h * n < fewN l h
          · rw [if_pos h3, if_pos h3]
          · rw [if_neg h3, if_neg h3]
theorem within_any (n l h : Int) (w : World) : Calls Tryd.prog 58 #[.int .i64 n, .int .i64 l, .int .i64 h] w fun e w' => e = .returned (.tuple #[.int .i64 (wiN n l h), .int .i64 (wiE n l h)]) ∧ Drawn0 w w' := level_Within.calls 20 n l h _ _ w (within_f n l h)

/-- May so many be in a capacity? -/
def fitsB (n s : Int) : Bool := if capB s then (if n < 0 then false else decide (withN n (hgt s) (hgt s) = 0)) else false
theorem hgt_may {s : Int} (h : capB s = true) : mayB (hgt s) (hgt s) = true := by
  have : ∀ s ∈ ([32, 64, 128, 256, 512, 1024, 2048, 4096] : List Int), mayB (hgt s) (hgt s) = true := by decide +kernel
  exact this s (cap_mem h)
theorem fits_any (n s : Int) (w : World) (hT : L1.Tb w) : Calls Tryd.prog 52 #[.int .i64 n, .int .i64 s] w fun e w' => e = .returned (.bool (fitsB n s)) ∧ Drawn0 w w' := by
  have CH := height_any s w hT
  cases hc : capB s with
  | false =>
    have e1 : hgt s = 0 := by
      have hn := hc
      unfold capB at hn
      have hn := of_decide_eq_false hn
      unfold hgt
      repeat rw [if_neg (by omega)]
    have e2 : fitsB n s = false := by unfold fitsB; rw [hc]; rfl
    rw [hc, e1] at CH
    simp only [Bool.false_eq_true, if_false] at CH
    rw [e2]
    clear hc e1 e2 hT
    go_enter Tryd.func52, Tryd.ntmps52
    go_wp2_with fail
    refine CH.mono ?_
    clear CH
    rintro e w1 ⟨rfl, hd⟩
    have HD := Aside0.mk hd
    clear hd
    go_wp2
    go_ret
    exact ⟨rfl, HD.out⟩
  | true =>
    have hm := hgt_may hc
    have CW := Aside0.mk (fun w => within_any n (hgt s) (hgt s) w)
    have e2 : fitsB n s = if n < 0 then false else decide (withN n (hgt s) (hgt s) = 0) := by unfold fitsB; rw [hc, if_pos rfl]
    rw [hc] at CH
    simp only [if_true] at CH
    have e3 : wiN n (hgt s) (hgt s) = if n < 0 then 0 else withN n (hgt s) (hgt s) := by unfold wiN; rw [if_neg (show ¬ mayB (hgt s) (hgt s) = false by rw [hm]; decide)]
    have e4 : wiE n (hgt s) (hgt s) = if n < 0 then 1 else 0 := by unfold wiE; rw [if_neg (show ¬ mayB (hgt s) (hgt s) = false by rw [hm]; decide)]
    rw [e3, e4] at CW
    clear e3 e4
    rw [e2]
    clear hc hm e2 hT
    generalize withN n (hgt s) (hgt s) = v at *
    generalize hgt s = h at *
    by_cases h0 : n < 0
    · rw [if_pos h0, if_pos h0] at CW
      rw [if_pos h0]
      go_enter Tryd.func52, Tryd.ntmps52
      go_wp2_with fail
      refine CH.mono ?_
      clear CH
      rintro e w1 ⟨rfl, hd⟩
      have HD := Aside0.mk hd
      clear hd
      go_wp2_with fail
      refine (CW.out _).mono ?_
      rintro e w2 ⟨rfl, hd⟩
      have HD2 := Aside0.mk hd
      clear hd
      go_wp2
      go_ret
      exact ⟨rfl, L1.drawn_step HD.out HD2.out⟩
    · rw [if_neg h0, if_neg h0] at CW
      rw [if_neg h0]
      by_cases hv : v = 0
      · subst hv
        go_enter Tryd.func52, Tryd.ntmps52
        go_wp2_with fail
        refine CH.mono ?_
        clear CH
        rintro e w1 ⟨rfl, hd⟩
        have HD := Aside0.mk hd
        clear hd
        go_wp2_with fail
        refine (CW.out _).mono ?_
        rintro e w2 ⟨rfl, hd⟩
        have HD2 := Aside0.mk hd
        clear hd
        go_wp2
        go_ret
        exact ⟨rfl, L1.drawn_step HD.out HD2.out⟩
      · have qv : (v == 0) = false := beq_eq_false_iff_ne.2 hv
        rw [decide_eq_false hv]
        clear hv
        go_enter Tryd.func52, Tryd.ntmps52
        go_wp2_with fail
        refine CH.mono ?_
        clear CH
        rintro e w1 ⟨rfl, hd⟩
        have HD := Aside0.mk hd
        clear hd
        go_wp2_with fail
        refine (CW.out _).mono ?_
        rintro e w2 ⟨rfl, hd⟩
        have HD2 := Aside0.mk hd
        clear hd
        go_wp2
        go_ret
        exact ⟨rfl, L1.drawn_step HD.out HD2.out⟩
theorem rmay_yes : ∀ s ∈ ([32, 64, 128, 256, 512, 1024, 2048, 4096] : List Int), punnetref08_May.f 20 s = some true := by decide +kernel
theorem rmay_f (s : Int) : punnetref08_May.f 20 s = some (capB s) := by
  cases hc : capB s with
  | true => exact rmay_yes s (cap_mem hc)
  | false =>
    have hn := hc
    unfold capB at hn
    have hn := of_decide_eq_false hn
    have h (k : Nat) (x y : Int) (hx : x ≤ 4096) (hs : ¬ x = s) (hy : wrap64 (2 * x) = y) : punnetref08_May.l0 (k + 1) s x = punnetref08_May.l0 k s y := by
      show (if x ≤ 4096 then (if x = s then _ else _) else _) = _
      rw [if_pos hx, if_neg hs, hy]
    show punnetref08_May.l0 20 s 32 = some false
    rw [h 19 32 64 (by decide) (by omega) (by decide +kernel), h 18 64 128 (by decide) (by omega) (by decide +kernel), h 17 128 256 (by decide) (by omega) (by decide +kernel), h 16 256 512 (by decide) (by omega) (by decide +kernel),
      h 15 512 1024 (by decide) (by omega) (by decide +kernel), h 14 1024 2048 (by decide) (by omega) (by decide +kernel), h 13 2048 4096 (by decide) (by omega) (by decide +kernel), h 12 4096 8192 (by decide) (by omega) (by decide +kernel)]
    rfl
theorem fit_small : ∀ s ∈ ([32, 64, 128, 256, 512, 1024, 2048, 4096] : List Int), wrap64 (5 * wrap64 (Int.tdiv s 8)) = 5 * (s / 8) ∧ wrap64 (2 * wrap64 (Int.tdiv s 8)) = 2 * (s / 8) ∧ manyN (hgt s) (hgt s) = hgt s * (5 * (s / 8)) ∧ fewN (hgt s) (hgt s) = (if s = 32 then 0 else hgt s * (2 * (s / 8))) ∧ 2 ≤ hgt s := by decide +kernel
theorem rfits_any (n s : Int) (w : World) : Calls Tryd.prog 53 #[.int .i64 n, .int .i64 s] w fun e w' => e = .returned (.bool (fitsB n s)) ∧ Drawn0 w w' := by
  refine punnetref08_Fits.calls 20 n s _ w ?_
  unfold punnetref08_Fits.f
  rw [rmay_f, Option.bind_some]
  unfold fitsB
  cases hc : capB s with
  | false => rfl
  | true =>
    rw [if_pos rfl, if_pos rfl]
    by_cases h0 : n < 0
    · rw [if_pos h0, if_pos h0]
    · rw [if_neg h0, if_neg h0]
      obtain ⟨e1, e2, e3, e4, e5⟩ := fit_small s (cap_mem hc)
      unfold withN
      rw [e1, e2, e3, e4]
      clear e1 e2 e3 e4
      generalize hgt s = h at *
      generalize s / 8 = q at *
      have m1 : h * n > h * (5 * q) ↔ n > 5 * q := Int.mul_lt_mul_left (by omega)
      have m2 : h * n < h * (2 * q) ↔ n < 2 * q := Int.mul_lt_mul_left (by omega)
      have m3 : 0 ≤ h * n := Int.mul_nonneg (by omega) (by omega)
      by_cases a1 : n ≤ 5 * q
      · rw [if_pos a1, if_neg (show ¬ h * n > h * (5 * q) by rw [m1]; omega)]
        by_cases a3 : s = 32
        · rw [if_pos a3, if_neg (show ¬ h * n < 0 by omega)]
          by_cases a2 : n ≥ 2 * q
          · rw [if_pos a2]; rfl
          · rw [if_neg a2, show (s == 32) = true from beq_iff_eq.2 a3]; rfl
        · rw [if_neg a3]
          by_cases a2 : n ≥ 2 * q
          · rw [if_pos a2, if_neg (show ¬ h * n < h * (2 * q) by rw [m2]; omega)]; rfl
          · rw [if_neg a2, if_pos (show h * n < h * (2 * q) by rw [m2]; omega), show (s == 32) = false from beq_eq_false_iff_ne.2 a3]; rfl
      · rw [if_neg a1, if_pos (show h * n > h * (5 * q) by rw [m1]; omega)]; rfl
theorem rfor_small : ∀ n : Nat, n < 2561 → punnetref08_For.f 40 (n : Int) = some (forN n) := by decide +kernel
theorem rfor_any (n : Nat) (w : World) : Calls Tryd.prog 54 #[.int .i64 n] w fun e w' => e = .returned (.int .i64 (forN n)) ∧ Drawn0 w w' := by
  refine punnetref08_For.calls 40 n _ w ?_
  by_cases h : n < 2561
  · exact rfor_small n h
  · unfold punnetref08_For.f forN
    rw [if_pos (by omega), if_neg (by omega), if_pos (by omega)]
theorem rwrong_any (n s : Int) (w : World) : Calls Tryd.prog 49 #[.int .i64 n, .int .i64 s] w fun e w' => e = .returned (.int .i64 (if capB s then (if n > s then 12 else 0) else 10)) ∧ Drawn0 w w' := by
  refine punnetref08_Wrong.calls 20 n s _ w ?_
  unfold punnetref08_Wrong.f
  rw [rmay_f, Option.bind_some]
  cases capB s
  · rfl
  · simp only [if_true]
    split <;> rfl
theorem rplaces_any {n S k : Nat} (hk : S = 8 * k) (h1 : 1 ≤ k) (h2 : k ≤ 512) (h3 : n ≤ S) (w : World) : Calls Tryd.prog 50 #[.int .i64 n, .int .i64 S] w fun e w' => ∃ v, e = .returned v ∧ Sep w w' [S1.Own v (plK n k 0 k)] := by
  obtain ⟨q, hq⟩ := pl_ev (n := n) (s := k) (f := 0) h1 h2 (by omega) (by omega)
  have h := hq q (Nat.le_refl _)
  refine (punnetref08_Places.calls q n S (plK n k 0 k) w ?_).mono ?_
  · unfold punnetref08_Places.f
    have e : wrap64 (Int.tdiv (S : Int) 8) = (k : Int) := by
      rw [Int.tdiv_eq_ediv_of_nonneg (by omega), show (S : Int) / 8 = (k : Int) by omega, w64 (by omega) (by omega)]
    rw [e]
    simp only [Int.natCast_zero] at h
    rw [h]
    rfl
  · rintro e w' ⟨v, rfl, hR, hb⟩
    exact ⟨v, rfl, (Sep.nil w).new_own hb (Kd.own_of_R hR)⟩
end Go.Proofs.YtofkkdjbilklcaaDoor.Y5
