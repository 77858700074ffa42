/- Searches where keys rise, plain; the law FindRight walked. -/
import Derived.Test.YtbjkncgpoengaaaDoorF10
namespace Go.Proofs.YtbjkncgpoengaaaDoor.F11
open Go.RowKit Go.Proofs.YtbjkncgpoengaaaDoorW.PrintWords Go.Proofs.YtbjkncgpoengaaaDoorW.PrintLast Go.Proofs.YtbjkncgpoengaaaDoorW.PrintMore G1 G0 Q1 G2 G3 G4 G5 G6 G7 G8 G9 G10 G11 F1 F2 S1 F4 F5 F7 F8 F9 F10
set_option linter.unusedVariables false
set_option linter.unusedSimpArgs false

/-- The search where a test holds of the first ones and of no later one. -/
theorem half_right {n : Nat} {f : Nat → Bool} {xs : List Int} {q : Int → Bool} (hm : ∀ i j, i < j → j < n → f i = true → f j = true → q (xs.getD j 0) = true → q (xs.getD i 0) = true) : ∀ (k lo hi : Nat) (r : Int) (c : Nat), hi - lo < k → hi ≤ n →
    (∀ j, j < lo → f j = true → q (xs.getD j 0) = true) → ((r = -1 ∧ ∀ j, hi ≤ j → j < n → f j = false) ∨ ∃ t : Nat, r = t ∧ hi ≤ t ∧ t < n ∧ f t = true ∧ q (xs.getD t 0) = false ∧ ∀ j, hi ≤ j → j < t → f j = false) →
    (((half f xs n q k lo hi r c).1 = -1 ∧ ∀ j, j < n → f j = true → q (xs.getD j 0) = true) ∨ ∃ t : Nat, (half f xs n q k lo hi r c).1 = t ∧ t < n ∧ f t = true ∧ q (xs.getD t 0) = false ∧ ∀ j, j < t → f j = true → q (xs.getD j 0) = true) := by
  intro k
  induction k with
  | zero => intro lo hi r c h; omega
  | succ k ih =>
    intro lo hi r c h hn hlo hr
    by_cases hd : hi ≤ lo
    · rw [half_done hd h]
      rcases hr with ⟨e, h2⟩ | ⟨t, e, h2, h3, h4, h5, h6⟩
      · refine .inl ⟨e, fun j hj hf => ?_⟩
        by_cases c1 : j < lo
        · exact hlo j c1 hf
        · rw [h2 j (by omega) hj] at hf; cases hf
      · refine .inr ⟨t, e, h3, h4, h5, fun j hj hf => ?_⟩
        by_cases c1 : j < lo
        · exact hlo j c1 hf
        · rw [h6 j (by omega) hj] at hf; cases hf
    · have hlt : lo < hi := by omega
      obtain ⟨m, hm2⟩ : ∃ m, m = lo + (hi - lo) / 2 := ⟨_, rfl⟩
      rcases next_cases f n m (by omega) with ⟨e, hf⟩ | ⟨t, e, b1, b2, b3, b4⟩
      · rw [half_none (p := -1) hlt h (by rw [← hm2]; exact e) (.inl (by decide)), ← hm2]
        refine ih lo m r c (by omega) (by omega) hlo ?_
        rcases hr with ⟨e2, h2⟩ | ⟨t, e2, h2, h3, h4, h5, h6⟩
        · exact .inl ⟨e2, fun j h7 h8 => hf j h7 h8⟩
        · rw [hf t (by omega) h3] at h4; cases h4
      · by_cases ht : t < hi
        · have en : nextI f n ((lo + (hi - lo) / 2 : Nat) : Int) = t := by rw [← hm2]; exact e
          cases hq : q (xs.getD t 0) with
          | true =>
            rw [half_yes hlt h en ht hq]
            refine ih (t + 1) hi r (c + 1) (by omega) hn (fun j hj hf => ?_) hr
            by_cases c1 : j = t
            · rw [c1]; exact hq
            · exact hm j t (by omega) b2 hf b3 hq
          | false =>
            rw [half_no hlt h en ht hq, ← hm2]
            exact ih lo m t (c + 1) (by omega) (by omega) hlo (.inr ⟨t, rfl, b1, b2, b3, hq, b4⟩)
        · rw [half_none (p := (t : Int)) hlt h (by rw [← hm2]; exact e) (.inr (by omega)), ← hm2]
          refine ih lo m r c (by omega) (by omega) hlo ?_
          rcases hr with ⟨e2, h2⟩ | ⟨t', e2, h2, h3, h4, h5, h6⟩
          · rw [h2 t (by omega) b2] at b3; cases b3
          · refine .inr ⟨t', e2, by omega, h3, h4, h5, fun j h7 h8 => ?_⟩
            by_cases c1 : hi ≤ j
            · exact h6 j c1 h8
            · exact b4 j h7 (by omega)
theorem srch_right {n : Nat} {f : Nat → Bool} {xs : List Int} {q : Int → Bool} (hm : ∀ i j, i < j → j < n → f i = true → f j = true → q (xs.getD j 0) = true → q (xs.getD i 0) = true) :
    ((srch f xs n q).1 = -1 ∧ ∀ j, j < n → f j = true → q (xs.getD j 0) = true) ∨ ∃ t : Nat, (srch f xs n q).1 = t ∧ t < n ∧ f t = true ∧ q (xs.getD t 0) = false ∧ ∀ j, j < t → f j = true → q (xs.getD j 0) = true :=
  half_right hm _ _ _ _ _ (by omega) (Nat.le_refl _) (fun j hj => by omega) (.inl ⟨rfl, fun j h1 h2 => by omega⟩)
/-- The first one. -/
def fstQ (p : Nat → Bool) : Nat → Int
  | 0 => -1
  | i + 1 => if p i && decide (fstQ p i < 0) then i else fstQ p i
theorem fst_none {p : Nat → Bool} : ∀ n, (∀ j, j < n → p j = false) → fstQ p n = -1 := by
  intro n
  induction n with
  | zero => intro _; rfl
  | succ n ih => intro h; simp [fstQ, h n (by omega), ih (fun j hj => h j (by omega))]
theorem fst_is {p : Nat → Bool} {t : Nat} (ht : p t = true) (hb : ∀ j, j < t → p j = false) : ∀ n, t < n → fstQ p n = t := by
  intro n
  induction n with
  | zero => intro h; omega
  | succ n ih =>
    intro h
    by_cases e : t = n
    · subst e
      simp [fstQ, ht, fst_none t hb]
    · have := ih (by omega)
      simp only [fstQ, this]
      simp
      intro _ hc
      omega
theorem lastF_congr {f g : Nat → Bool} : ∀ n, (∀ j, j < n → f j = g j) → lastF f n = lastF g n := by
  intro n
  induction n with
  | zero => intro _; rfl
  | succ n ih => intro h; simp only [lastF]; rw [h n (by omega), ih (fun j hj => h j (by omega))]
theorem lastF_cut {p : Nat → Bool} {t : Nat} : ∀ n, t ≤ n → (∀ j, t ≤ j → j < n → p j = false) → lastF p n = lastF p t := by
  intro n
  induction n with
  | zero => intro h _; rw [show t = 0 by omega]
  | succ n ih =>
    intro h hp
    by_cases e : t = n + 1
    · rw [e]
    · have hn : p n = false := hp n (by omega) (by omega)
      have h2 : lastF p (n + 1) = lastF p n := by simp [lastF, hn]
      rw [h2]
      exact ih (by omega) (fun j h1 h2 => hp j h1 (by omega))
section
variable {n : Nat} {g : Gap} (hr : Rises n g) (key : Int)
include hr
theorem mono_lt : ∀ i j, i < j → j < n → g.on i = true → g.on j = true → lt_ key (g.xs.getD j 0) = true → lt_ key (g.xs.getD i 0) = true := by
  intro i j h1 h2 h3 h4 h5
  have := hr i j h1 h2 h3 h4
  simp only [lt_, decide_eq_true_eq] at *
  omega
theorem mono_le : ∀ i j, i < j → j < n → g.on i = true → g.on j = true → le_ key (g.xs.getD j 0) = true → le_ key (g.xs.getD i 0) = true := by
  intro i j h1 h2 h3 h4 h5
  have := hr i j h1 h2 h3 h4
  simp only [le_, decide_eq_true_eq] at *
  omega
theorem right_lower : (srch g.on g.xs n (lt_ key)).1 = fstQ (fun j => g.on j && decide (key ≤ g.xs.getD j 0)) n := by
  rcases srch_right (mono_lt hr key) with ⟨e, h⟩ | ⟨t, e, h1, h2, h3, h4⟩
  · rw [e, fst_none]
    intro j hj
    cases hf : g.on j with
    | false => rfl
    | true =>
      have := h j hj hf
      simp only [lt_, decide_eq_true_eq] at this
      exact decide_eq_false (by omega)
  · rw [e, fst_is _ _ n h1]
    · simp only [lt_, decide_eq_false_iff_not] at h3
      rw [h2]
      exact decide_eq_true (by omega)
    · intro j hj
      cases hf : g.on j with
      | false => rfl
      | true =>
        have := h4 j hj hf
        simp only [lt_, decide_eq_true_eq] at this
        exact decide_eq_false (by omega)
theorem right_upper : (srch g.on g.xs n (le_ key)).1 = fstQ (fun j => g.on j && decide (key < g.xs.getD j 0)) n := by
  rcases srch_right (mono_le hr key) with ⟨e, h⟩ | ⟨t, e, h1, h2, h3, h4⟩
  · rw [e, fst_none]
    intro j hj
    cases hf : g.on j with
    | false => rfl
    | true =>
      have := h j hj hf
      simp only [le_, decide_eq_true_eq] at this
      exact decide_eq_false (by omega)
  · rw [e, fst_is _ _ n h1]
    · simp only [le_, decide_eq_false_iff_not] at h3
      rw [h2]
      exact decide_eq_true (by omega)
    · intro j hj
      cases hf : g.on j with
      | false => rfl
      | true =>
        have := h4 j hj hf
        simp only [le_, decide_eq_true_eq] at this
        exact decide_eq_false (by omega)
theorem right_before : (befR g.on g.xs n key).1 = lastF (fun j => g.on j && decide (g.xs.getD j 0 < key)) n := by
  unfold befR
  rcases srch_right (mono_lt hr key) with ⟨e, h⟩ | ⟨t, e, h1, h2, h3, h4⟩
  · rw [e, if_pos (by decide)]
    show prevI g.on n ((n : Int) - 1) = _
    unfold prevI
    rw [show (min ((n : Int) - 1 + 1) (n : Int)).toNat = n by omega]
    refine lastF_congr n fun j hj => ?_
    cases hf : g.on j with
    | false => rfl
    | true =>
      have := h j hj hf
      simp only [lt_] at this
      rw [this]
      rfl
  · rw [e, if_neg (by omega)]
    show prevI g.on n ((t : Int) - 1) = _
    unfold prevI
    rw [show (min ((t : Int) - 1 + 1) (n : Int)).toNat = t by omega]
    simp only [lt_, decide_eq_false_iff_not] at h3
    rw [lastF_cut (t := t) n (by omega)]
    · refine lastF_congr t fun j hj => ?_
      cases hf : g.on j with
      | false => rfl
      | true =>
        have := h4 j hj hf
        simp only [lt_] at this
        rw [this]
        rfl
    · intro j hj hjn
      cases hf : g.on j with
      | false => rfl
      | true =>
        have : ¬ g.xs.getD j 0 < key := by
          by_cases c1 : j = t
          · rw [c1]; exact h3
          · have := hr t j (by omega) hjn h2 hf
            omega
        exact decide_eq_false (by omega)
theorem right_exact : (exaR g.on g.xs n key).1 = lastF (fun j => g.on j && decide (g.xs.getD j 0 = key)) n := by
  unfold exaR
  rcases srch_right (mono_lt hr key) with ⟨e, h⟩ | ⟨t, e, h1, h2, h3, h4⟩
  · rw [e, if_pos (by decide)]
    show (-1 : Int) = _
    rw [last_none]
    intro j hj
    cases hf : g.on j with
    | false => rfl
    | true =>
      have := h j hj hf
      simp only [lt_, decide_eq_true_eq] at this
      exact decide_eq_false (by omega)
  · rw [e, if_neg (by omega), Int.toNat_natCast]
    simp only [lt_, decide_eq_false_iff_not] at h3
    by_cases hk : g.xs.getD t 0 = key
    · rw [if_pos hk, last_is (t := t) (by rw [h2, decide_eq_true hk]; rfl) n h1]
      intro j hj hjn
      cases hf : g.on j with
      | false => rfl
      | true =>
        have := hr t j hj hjn h2 hf
        exact decide_eq_false (by omega)
    · rw [if_neg hk]
      show (-1 : Int) = _
      rw [last_none]
      intro j hj
      cases hf : g.on j with
      | false => rfl
      | true =>
        refine decide_eq_false (fun hc => ?_)
        by_cases c1 : j < t
        · have := h4 j c1 hf
          simp only [lt_, decide_eq_true_eq] at this
          omega
        · by_cases c2 : j = t
          · rw [c2] at hc; exact hk hc
          · have := hr t j (by omega) hj h2 hf
            omega
theorem rises_asc : asc (vals (ons g.on g.xs n)) = true := by
  have key : ∀ k, k ≤ n → (stA (vals (ons g.on g.xs k))).1 = true ∧ ((stA (vals (ons g.on g.xs k))).2.1 = true ∨ ∃ t, t < k ∧ g.on t = true ∧ (stA (vals (ons g.on g.xs k))).2.2 = g.xs.getD t 0) := by
    intro k
    induction k with
    | zero => intro _; exact ⟨rfl, .inl rfl⟩
    | succ k ih =>
      intro hk
      obtain ⟨h1, h2⟩ := ih (by omega)
      rw [ons_succ]
      cases hf : g.on k with
      | false =>
        simp only [Bool.false_eq_true, if_false, List.append_nil]
        refine ⟨h1, ?_⟩
        rcases h2 with h2 | ⟨t, h3, h4, h5⟩
        · exact .inl h2
        · exact .inr ⟨t, by omega, h4, h5⟩
      | true =>
        have e : vals (ons g.on g.xs k ++ if true = true then [(k, g.xs.getD k 0)] else []) = vals (ons g.on g.xs k) ++ [g.xs.getD k 0] := by simp [vals]
        rw [e, stA_snoc]
        refine ⟨?_, .inr ⟨k, by omega, hf, rfl⟩⟩
        simp only [stp, h1, Bool.true_and, Bool.or_eq_true, decide_eq_true_eq]
        rcases h2 with h2 | ⟨t, h3, h4, h5⟩
        · exact .inl h2
        · rw [h5]
          exact .inr (hr t k h3 (by omega) h4 hf)
  exact (key n (Nat.le_refl n)).1
end
theorem law_no (n : Int) (A : Option Addr) (c : Nat) (l : List Ky) (key : Int) (w : World) (hT : Tb w) (h : n < 1 ∨ 5000 < n ∨ 300 < l.length) :
    Calls Tryd.prog 8 #[.agg #[.int .i64 n, .slice A l.length c], .int .i64 key] w fun e w' => e = .returned (.bool true) ∧ Below w.heap.size w w' := by
  have HS := Aside0.mk ((Sep.nil w).new_blk #[.int .i64 n, .slice A l.length c] 63)
  have HT := Aside0.mk hT
  have C := Aside0.mk (risen_no n A c l (w.alloc (.cells #[.int .i64 n, .slice A l.length c] 63)) h)
  clear hT h
  go_enter Tryd.func8, Tryd.ntmps8
  go_wp2_with fail
  refine C.out.mono ?_
  rintro e w1 ⟨rfl, hw⟩
  replace HS := Aside0.mk (HS.out.step hw)
  clear hw C
  have C := Aside0.mk (F6.awake_any _ (Kd.C_below HT.out HS.out.below))
  go_wp2_with fail
  refine C.out.mono ?_
  rintro e w20 ⟨rfl, hw⟩
  replace HS := Aside0.mk (HS.out.step hw)
  clear hw
  go_wp2
  go_ret
  exact ⟨rfl, HS.out.below⟩
structure Fnd where
  lo : Int
  up : Int
  be : Int
  ex : Int
def fnd (g : Gap) (key : Int) (i : Nat) : Fnd := ⟨fstQ (fun j => g.on j && decide (key ≤ g.xs.getD j 0)) i, fstQ (fun j => g.on j && decide (key < g.xs.getD j 0)) i, lastF (fun j => g.on j && decide (g.xs.getD j 0 < key)) i, lastF (fun j => g.on j && decide (g.xs.getD j 0 = key)) i⟩
def fndS (key : Int) (i : Nat) (s : Fnd) (b : Bool) (x : Int) : Fnd := if b then ⟨if key ≤ x ∧ s.lo < 0 then i else s.lo, if key < x ∧ s.up < 0 then i else s.up, if x < key then i else s.be, if x = key then i else s.ex⟩ else s
theorem fnd_succ (g : Gap) (key : Int) (i : Nat) : fnd g key (i + 1) = fndS key i (fnd g key i) (g.on i) (g.xs.getD i 0) := by
  unfold fnd fndS
  cases hf : g.on i with
  | false => simp [fstQ, lastF, hf]
  | true => simp only [fstQ, lastF, hf, Bool.true_and, Bool.and_eq_true, decide_eq_true_eq, if_true]
set_option maxRecDepth 100000 in
set_option maxHeartbeats 2000000 in
theorem law_yes (n : Nat) (A : Option Addr) (c : Nat) (l : List Ky) (key : Int) (w : World) (hT : Tb w) (hr : Kd.C kKey w A l.length l) (h1 : 1 ≤ n) (h2 : n ≤ 5000) (h3 : l.length ≤ 300) :
    Calls Tryd.prog 8 #[.agg #[.int .i64 n, .slice A l.length c], .int .i64 key] w fun e w' => e = .returned (.bool true) ∧ Below w.heap.size w w' := by
  have hs0 := (Sep.nil w).new_blk #[.int .i64 n, .slice A l.length c] 63
  have HS := Aside0.mk hs0
  have HT := Aside0.mk hT
  have C := Aside0.mk (risen_yes n A c l _ (Kd.C_below hr hs0.below) h1 h2 h3)
  have RR := Aside0.mk (rise_rises n (layS n l))
  clear hr hs0 hT
  go_enter Tryd.func8, Tryd.ntmps8
  go_wp2_with fail
  refine C.out.mono ?_
  clear C
  rintro e w1 ⟨p, sb, ob, wb, lb, rfl, hS⟩
  generalize rise n (layS n l) = g at hS RR
  replace HS := Aside0.mk (HS.out.append hS).tail
  clear hS
  go_wp2
  go_loopg [7, 8, 9, 10, 11] n (fun kq v7 v8 v9 v10 v11 w' => ∃ i : Nat, v7 = .int .i64 (fnd g key i).lo ∧ v8 = .int .i64 (fnd g key i).up ∧ v9 = .int .i64 (fnd g key i).be ∧ v10 = .int .i64 (fnd g key i).ex ∧ v11 = .int .i64 i ∧ i ≤ n ∧ Aside0 (n - i ≤ kq) ∧ Aside0 (Sep w w' [Arr p sb ob wb n g, SlB lb (slots n g)]))
  case atStart => exact ⟨0, rfl, rfl, rfl, rfl, rfl, by omega, ⟨by omega⟩, HS⟩
  case round =>
    clear HS
    obtain ⟨i, rfl, rfl, rfl, rfl, rfl, hi, HQ, HS⟩ := hrel
    by_cases hlt : i < n
    · obtain ⟨gk, rfl⟩ : ∃ m, gk = m + 1 := ⟨gk - 1, by have := HQ.out; omega⟩
      have hc := slb_cell (HS.out.slb 1 rfl) (i := i) (by rw [slots_length]; exact hlt)
      rw [slots_get n g hlt] at hc
      have s0 := hc.1
      have s1 := hc.2
      have FN := Aside0.mk (fnd_succ g key i)
      clear hc
      generalize fnd g key i = s at *
      obtain ⟨lo, up, be, ex⟩ := s
      generalize g.xs.getD i 0 = x at *
      cases hf : g.on i
      · rw [hf] at s0 FN
        clear hf
        have FE := Aside0.mk (FN.out.trans (show _ = (⟨lo, up, be, ex⟩ : Fnd) from rfl))
        clear FN
        go_wp2
        go_roundg gk
        case measure => omega
        case rel => exact ⟨i + 1, by rw [FE.out], by rw [FE.out], by rw [FE.out], by rw [FE.out], by go_num, by omega, ⟨by have := HQ.out; omega⟩, HS⟩
      · rw [hf] at s0 FN
        clear hf
        rcases Int.lt_trichotomy x key with hx | hx | hx
        · have q1 : ¬ key ≤ x := by omega
          have q2 : ¬ key < x := by omega
          have q3 : (x == key) = false := beq_eq_false_iff_ne.2 (by omega)
          have q4 : ¬ x = key := by omega
          have FE := Aside0.mk (FN.out.trans (show _ = (⟨lo, up, (i : Int), ex⟩ : Fnd) by simp [fndS, q1, q2, q4, hx]))
          clear FN
          go_wp2
          go_roundg gk
          case measure => omega
          case rel => exact ⟨i + 1, by rw [FE.out], by rw [FE.out], by rw [FE.out], by rw [FE.out], by go_num, by omega, ⟨by have := HQ.out; omega⟩, HS⟩
        · have q1 : key ≤ x := by omega
          have q2 : ¬ key < x := by omega
          have q3 : (x == key) = true := beq_iff_eq.2 (by omega)
          have q4 : ¬ x < key := by omega
          by_cases hlo : lo < 0
          · have FE := Aside0.mk (FN.out.trans (show _ = (⟨(i : Int), up, be, (i : Int)⟩ : Fnd) by simp [fndS, q1, q2, q4, hx, hlo]))
            clear FN hx
            go_wp2
            go_roundg gk
            case measure => omega
            case rel => exact ⟨i + 1, by rw [FE.out], by rw [FE.out], by rw [FE.out], by rw [FE.out], by go_num, by omega, ⟨by have := HQ.out; omega⟩, HS⟩
          · have FE := Aside0.mk (FN.out.trans (show _ = (⟨lo, up, be, (i : Int)⟩ : Fnd) by simp [fndS, q1, q2, q4, hx, hlo]))
            clear FN hx
            go_wp2
            go_roundg gk
            case measure => omega
            case rel => exact ⟨i + 1, by rw [FE.out], by rw [FE.out], by rw [FE.out], by rw [FE.out], by go_num, by omega, ⟨by have := HQ.out; omega⟩, HS⟩
        · have q1 : key ≤ x := by omega
          have q3 : (x == key) = false := beq_eq_false_iff_ne.2 (by omega)
          have q4 : ¬ x < key := by omega
          have q5 : ¬ x = key := by omega
          by_cases hlo : lo < 0
          · by_cases hup : up < 0
            · have FE := Aside0.mk (FN.out.trans (show _ = (⟨(i : Int), (i : Int), be, ex⟩ : Fnd) by simp [fndS, q1, hx, q4, q5, hlo, hup]))
              clear FN
              go_wp2
              go_roundg gk
              case measure => omega
              case rel => exact ⟨i + 1, by rw [FE.out], by rw [FE.out], by rw [FE.out], by rw [FE.out], by go_num, by omega, ⟨by have := HQ.out; omega⟩, HS⟩
            · have FE := Aside0.mk (FN.out.trans (show _ = (⟨(i : Int), up, be, ex⟩ : Fnd) by simp [fndS, q1, hx, q4, q5, hlo, hup]))
              clear FN
              go_wp2
              go_roundg gk
              case measure => omega
              case rel => exact ⟨i + 1, by rw [FE.out], by rw [FE.out], by rw [FE.out], by rw [FE.out], by go_num, by omega, ⟨by have := HQ.out; omega⟩, HS⟩
          · by_cases hup : up < 0
            · have FE := Aside0.mk (FN.out.trans (show _ = (⟨lo, (i : Int), be, ex⟩ : Fnd) by simp [fndS, q1, hx, q4, q5, hlo, hup]))
              clear FN
              go_wp2
              go_roundg gk
              case measure => omega
              case rel => exact ⟨i + 1, by rw [FE.out], by rw [FE.out], by rw [FE.out], by rw [FE.out], by go_num, by omega, ⟨by have := HQ.out; omega⟩, HS⟩
            · have FE := Aside0.mk (FN.out.trans (show _ = (⟨lo, up, be, ex⟩ : Fnd) by simp [fndS, q1, hx, q4, q5, hlo, hup]))
              clear FN
              go_wp2
              go_roundg gk
              case measure => omega
              case rel => exact ⟨i + 1, by rw [FE.out], by rw [FE.out], by rw [FE.out], by rw [FE.out], by go_num, by omega, ⟨by have := HQ.out; omega⟩, HS⟩
    · obtain rfl : n = i := by omega
      have E1 := Aside0.mk (show (srch g.on g.xs n (lt_ key)).1 = (fnd g key n).lo from right_lower RR.out key)
      have E2 := Aside0.mk (show (srch g.on g.xs n (le_ key)).1 = (fnd g key n).up from right_upper RR.out key)
      have E3 := Aside0.mk (show (befR g.on g.xs n key).1 = (fnd g key n).be from right_before RR.out key)
      have E4 := Aside0.mk (show (exaR g.on g.xs n key).1 = (fnd g key n).ex from right_exact RR.out key)
      have E5 := Aside0.mk (rises_asc RR.out)
      generalize fnd g key n = s at *
      obtain ⟨lo, up, be, ex⟩ := s
      obtain ⟨vs, hs⟩ := HS.out.arr 0 rfl
      have C := Aside0.mk (lower_any hs (Kd.C_below HT.out HS.out.below) key)
      clear hs
      go_wp2_with fail
      refine C.out.mono ?_
      clear C
      rintro e w2 ⟨rfl, hw⟩
      replace HS := Aside0.mk (HS.out.step hw)
      clear hw
      rw [E1.out]
      obtain ⟨vs, hs⟩ := HS.out.arr 0 rfl
      have C := Aside0.mk (upper_any hs (Kd.C_below HT.out HS.out.below) key)
      clear hs
      go_wp2_with fail
      refine C.out.mono ?_
      clear C
      rintro e w3 ⟨rfl, hw⟩
      replace HS := Aside0.mk (HS.out.step hw)
      clear hw
      rw [E2.out]
      obtain ⟨vs, hs⟩ := HS.out.arr 0 rfl
      have C := Aside0.mk (before_any hs (Kd.C_below HT.out HS.out.below) key)
      clear hs
      go_wp2_with fail
      refine C.out.mono ?_
      clear C
      rintro e w4 ⟨rfl, hw⟩
      replace HS := Aside0.mk (HS.out.step hw)
      clear hw
      rw [E3.out]
      obtain ⟨vs, hs⟩ := HS.out.arr 0 rfl
      have C := Aside0.mk (exact_any hs (Kd.C_below HT.out HS.out.below) key)
      clear hs
      go_wp2_with fail
      refine C.out.mono ?_
      clear C
      rintro e w5 ⟨rfl, hw⟩
      replace HS := Aside0.mk (HS.out.step hw)
      clear hw
      rw [E4.out]
      have C := Aside0.mk (sorted_any (w := w5) (p := some ⟨p, 0, none⟩) (.inr ⟨p, sb, ob, wb, n, g, rfl, HS.out.arr 0 rfl, Kd.C_below HT.out HS.out.below, rfl⟩) E5.out)
      go_wp2_with fail
      refine C.out.mono ?_
      clear C
      rintro e w6 ⟨rfl, hw⟩
      replace HS := Aside0.mk (HS.out.step hw)
      clear hw
      have C := Aside0.mk (F6.awake_any _ (Kd.C_below HT.out HS.out.below))
      go_wp2_with fail
      refine C.out.mono ?_
      rintro e w20 ⟨rfl, hw⟩
      replace HS := Aside0.mk (HS.out.step hw)
      clear hw
      go_wp2
      go_ret
      exact ⟨rfl, HS.out.below⟩
theorem law (n : Int) (wn : (Lit.int .i64 n).wf = true) (A : Option Addr) (c : Nat) (l : List Ky) {W0 : World} (g : Kd.C kKey W0 A l.length l) (key : Int) (wk : (Lit.int .i64 key).wf = true) (W : World) (hT : Tb W) (hW : W = W0 := by rfl) :
    Calls Tryd.prog 8 #[.agg #[.int .i64 n, .slice A l.length c], .int .i64 key] W fun e w' => e = .returned (.bool true) ∧ Below W.heap.size W w' := by
  subst hW
  by_cases h : n < 1 ∨ 5000 < n ∨ 300 < l.length
  · exact law_no n A c l key W hT h
  · obtain ⟨m, rfl⟩ := Int.eq_ofNat_of_zero_le (show 0 ≤ n by omega)
    exact law_yes m A c l key W hT g (by omega) (by omega) (by omega)
end Go.Proofs.YtbjkncgpoengaaaDoor.F11
