/- What calls do to an array with gaps, plain; the law's helpers does and made. -/
import Derived.Test.YtbjkncgpoengaaaDoorG9
namespace Go.Proofs.YtbjkncgpoengaaaDoor.G10
open Go.RowKit Go.Proofs.YtbjkncgpoengaaaDoorW.PrintWords Go.Proofs.YtbjkncgpoengaaaDoorW.PrintLast Go.Proofs.YtbjkncgpoengaaaDoorW.PrintMore G1 G0 Q1 G2 G3 G4 G5 G6 G7 G8 G9
set_option linter.unusedVariables false
set_option linter.unusedSimpArgs false

/-- Which slots are on, and what they hold. -/
structure Gap where
  on : Nat → Bool
  xs : List Int
def inR (n : Nat) (i : Int) : Bool := decide (0 ≤ i ∧ i < n)
def putR (n : Nat) (s : Gap) (i : Int) : Int := if inR n i then (if s.on i.toNat then 15 else 0) else 10
def putS (n : Nat) (s : Gap) (i x : Int) : Gap := if putR n s i = 0 then ⟨upd s.on i.toNat true, s.xs.set i.toNat x⟩ else s
def takeR (n : Nat) (s : Gap) (i : Int) : Int × Int := if inR n i then (if s.on i.toNat then (s.xs.getD i.toNat 0, 0) else (0, 14)) else (0, 10)
def takeS (n : Nat) (s : Gap) (i : Int) : Gap := if (takeR n s i).2 = 0 then ⟨upd s.on i.toNat false, s.xs.set i.toNat 0⟩ else s
def moveR (n : Nat) (s : Gap) (i j : Int) : Int := if inR n i && inR n j then (if s.on i.toNat then (if s.on j.toNat then 15 else 0) else 14) else 10
def moveS (n : Nat) (s : Gap) (i j : Int) : Gap := if moveR n s i j = 0 then ⟨upd (upd s.on i.toNat false) j.toNat true, (s.xs.set i.toNat 0).set j.toNat (s.xs.getD i.toNat 0)⟩ else s
/-- The array stands so. -/
abbrev Is (w : World) (p sb ob wb n : Nat) (s : Gap) : Prop := ∃ vs, SlAt w p sb ob wb n s.on s.xs vs
section
variable {w : World} {p sb ob wb n : Nat} {s : Gap}
theorem Is.below {w' : World} (h : Is w p sb ob wb n s) (hb : Below w.heap.size w w') : Is w' p sb ob wb n s := by
  obtain ⟨vs, h⟩ := h
  exact ⟨vs, h.below hb⟩
theorem Is.only {w' : World} {S : Nat → Prop} (h : Is w p sb ob wb n s) (hb : Only S w w') (h1 : ¬ S p) (h2 : ¬ S sb) (h3 : ¬ S ob) (h4 : ¬ S wb) : Is w' p sb ob wb n s := by
  obtain ⟨vs, h⟩ := h
  exact ⟨vs, h.only hb h1 h2 h3 h4⟩
theorem put_any (h : Is w p sb ob wb n s) (i x : Int) : Calls Tryd.prog 49 #[.pointer (some ⟨p, 0, none⟩), .int .i64 i, .int .i64 x] w fun e w' => e = .returned (.int .i64 (putR n s i)) ∧ Is w' p sb ob wb n (putS n s i x) ∧ Only (Mine sb wb) w w' := by
  obtain ⟨vs, h⟩ := h
  unfold putS putR inR
  by_cases hi : 0 ≤ i ∧ i < n
  · rw [decide_eq_true hi]
    obtain ⟨k, rfl⟩ := Int.eq_ofNat_of_zero_le hi.1
    have hk : k < n := by omega
    rw [if_pos rfl, Int.toNat_natCast]
    cases hf : s.on k with
    | true =>
      rw [if_pos rfl, if_neg (by decide)]
      exact (put_there h hk hf x).mono fun e w' ⟨h1, h2⟩ => ⟨h1, ⟨vs, h.below h2⟩, Only.of_below h2⟩
    | false =>
      rw [if_neg (by decide), if_pos rfl]
      exact (put_yes h hk hf x).mono fun e w' ⟨h1, vs', h2, h3⟩ => ⟨h1, ⟨vs', h2⟩, h3⟩
  · rw [decide_eq_false hi, if_neg (by decide), if_neg (by decide)]
    exact (put_out h hi x).mono fun e w' ⟨h1, h2⟩ => ⟨h1, ⟨vs, h.below h2⟩, Only.of_below h2⟩
theorem take_any (h : Is w p sb ob wb n s) (i : Int) : Calls Tryd.prog 48 #[.pointer (some ⟨p, 0, none⟩), .int .i64 i] w fun e w' => e = .returned (.tuple #[.int .i64 (takeR n s i).1, .int .i64 (takeR n s i).2]) ∧ Is w' p sb ob wb n (takeS n s i) ∧ Only (Mine sb wb) w w' := by
  obtain ⟨vs, h⟩ := h
  unfold takeS takeR inR
  by_cases hi : 0 ≤ i ∧ i < n
  · rw [decide_eq_true hi]
    obtain ⟨k, rfl⟩ := Int.eq_ofNat_of_zero_le hi.1
    have hk : k < n := by omega
    rw [if_pos rfl, Int.toNat_natCast]
    cases hf : s.on k with
    | false =>
      rw [if_neg (by decide), if_neg (by decide)]
      exact (take_none h hk hf).mono fun e w' ⟨h1, h2⟩ => ⟨h1, ⟨vs, h.below h2⟩, Only.of_below h2⟩
    | true =>
      rw [if_pos rfl, if_pos rfl]
      exact (take_yes h hk hf).mono fun e w' ⟨h1, vs', h2, h3⟩ => ⟨h1, ⟨vs', h2⟩, h3⟩
  · rw [decide_eq_false hi, if_neg (by decide), if_neg (by decide)]
    exact (take_out h hi).mono fun e w' ⟨h1, h2⟩ => ⟨h1, ⟨vs, h.below h2⟩, Only.of_below h2⟩
theorem move_any (h : Is w p sb ob wb n s) (i j : Int) : Calls Tryd.prog 42 #[.pointer (some ⟨p, 0, none⟩), .int .i64 i, .int .i64 j] w fun e w' => e = .returned (.int .i64 (moveR n s i j)) ∧ Is w' p sb ob wb n (moveS n s i j) ∧ Only (Mine sb wb) w w' := by
  obtain ⟨vs, h⟩ := h
  unfold moveS moveR inR
  by_cases hi : (0 ≤ i ∧ i < n) ∧ 0 ≤ j ∧ j < n
  · rw [decide_eq_true hi.1, decide_eq_true hi.2]
    obtain ⟨k, rfl⟩ := Int.eq_ofNat_of_zero_le hi.1.1
    obtain ⟨m, rfl⟩ := Int.eq_ofNat_of_zero_le hi.2.1
    have hk : k < n := by omega
    have hm : m < n := by omega
    rw [Bool.and_self, if_pos rfl, Int.toNat_natCast, Int.toNat_natCast]
    cases hf : s.on k with
    | false =>
      rw [if_neg (by decide), if_neg (by decide)]
      exact (move_none h hk hm hf).mono fun e w' ⟨h1, h2⟩ => ⟨h1, ⟨vs, h.below h2⟩, Only.of_below h2⟩
    | true =>
      rw [if_pos rfl]
      cases hf2 : s.on m with
      | true =>
        rw [if_pos rfl, if_neg (by decide)]
        exact (move_there h hk hm hf hf2).mono fun e w' ⟨h1, h2⟩ => ⟨h1, ⟨vs, h.below h2⟩, Only.of_below h2⟩
      | false =>
        rw [if_neg (by decide), if_pos rfl]
        exact (move_yes h hk hm hf hf2).mono fun e w' ⟨h1, vs', h2, h3⟩ => ⟨h1, ⟨vs', h2⟩, h3⟩
  · have e : (decide (0 ≤ i ∧ i < (n : Int)) && decide (0 ≤ j ∧ j < (n : Int))) = false := by
      rw [← Bool.decide_and, decide_eq_false hi]
    rw [e, if_neg (by decide), if_neg (by decide)]
    exact (move_out h hi).mono fun e w' ⟨h1, h2⟩ => ⟨h1, ⟨vs, h.below h2⟩, Only.of_below h2⟩
/-- A call. -/
structure Cal where
  d : Int
  i : Int
  x : Int
def actR (n : Nat) (s : Gap) (a : Cal) : Int × Int := if a.d = 0 then (0, putR n s a.i) else if a.d = 1 then takeR n s a.i else (0, moveR n s a.i a.x)
def actS (n : Nat) (s : Gap) (a : Cal) : Gap := if a.d = 0 then putS n s a.i a.x else if a.d = 1 then takeS n s a.i else moveS n s a.i a.x
theorem does_any (h : Is w p sb ob wb n s) (a : Cal) : Calls Tryd.prog 16 #[.pointer (some ⟨p, 0, none⟩), .agg #[.int .i64 a.d, .int .i64 a.i, .int .i64 a.x]] w fun e w' => e = .returned (.tuple #[.int .i64 (actR n s a).1, .int .i64 (actR n s a).2]) ∧ Is w' p sb ob wb n (actS n s a) ∧ Only (Mine sb wb) w w' := by
  obtain ⟨d, i, x⟩ := a
  have B := below_alloc (Below.refl w.heap.size w) (.cells #[.int .i64 d, .int .i64 i, .int .i64 x] 32)
  have h2 := h.below B
  have HB := Aside0.mk B
  unfold actR actS
  dsimp only
  by_cases h0 : d = 0
  · subst h0
    have H := Aside0.mk (put_any h2 i x)
    rw [if_pos rfl, if_pos rfl]
    clear h h2 B
    go_enter Tryd.func16, Tryd.ntmps16
    go_wp2_with fail
    refine H.out.mono ?_
    rintro e w1 ⟨rfl, h3, h4⟩
    have H3 := Aside0.mk (And.intro h3 h4)
    clear h3 h4
    go_wp2
    go_ret2
    exact ⟨rfl, H3.out.1, (Only.of_below HB.out).trans H3.out.2⟩
  · by_cases h1 : d = 1
    · subst h1
      have H := Aside0.mk (take_any h2 i)
      rw [if_neg (show ¬ (1 : Int) = 0 by decide), if_pos rfl, if_neg (show ¬ (1 : Int) = 0 by decide), if_pos rfl]
      clear h h2 B h0
      generalize takeR n s i = r at *
      go_enter Tryd.func16, Tryd.ntmps16
      go_wp2_with fail
      refine H.out.mono ?_
      rintro e w1 ⟨rfl, h3, h4⟩
      have H3 := Aside0.mk (And.intro h3 h4)
      clear h3 h4
      go_wp2
      go_ret2
      exact ⟨rfl, H3.out.1, (Only.of_below HB.out).trans H3.out.2⟩
    · have H := Aside0.mk (move_any h2 i x)
      have g0 : (d == 0) = false := beq_eq_false_iff_ne.2 h0
      have g1 : (d == 1) = false := beq_eq_false_iff_ne.2 h1
      rw [if_neg h0, if_neg h1, if_neg h0, if_neg h1]
      clear h h2 B h0 h1
      go_enter Tryd.func16, Tryd.ntmps16
      go_wp2_with fail
      refine H.out.mono ?_
      rintro e w1 ⟨rfl, h3, h4⟩
      have H3 := Aside0.mk (And.intro h3 h4)
      clear h3 h4
      go_wp2
      go_ret2
      exact ⟨rfl, H3.out.1, (Only.of_below HB.out).trans H3.out.2⟩
end
end Go.Proofs.YtbjkncgpoengaaaDoor.G10
