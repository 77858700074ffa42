/- What calls do to an array of pairs with gaps; such an array, and a row of pairs, among other objects. -/
import Derived.Test.YtbjkncgpoengaaaDoorJ10
namespace Go.Proofs.YtbjkncgpoengaaaDoor.HP
open Go.RowKit Go.Shelf Go.Proofs.YtbjkncgpoengaaaDoorW.PrintWords Go.Proofs.YtbjkncgpoengaaaDoorW.PrintLast Go.Proofs.YtbjkncgpoengaaaDoorW.PrintMore G1 G0 Q1 G2 G3 G4 G5 G6 G7 G8 G9 G10 G11
set_option linter.unusedVariables false
set_option linter.unusedSimpArgs false
/-- The array stands so. -/
abbrev Is (pr : Int → Int × Int) (w : World) (p sb ob wb n : Nat) (s : Gap) : Prop := ∃ vs, SlAt pr w p sb ob wb n s.on s.xs vs
section
variable {pr : Int → Int × Int} {w : World} {p sb ob wb n : Nat} {s : Gap}
theorem Is.below {w' : World} (h : Is pr w p sb ob wb n s) (hb : Below w.heap.size w w') : Is pr w' p sb ob wb n s := by
  obtain ⟨vs, h⟩ := h
  exact ⟨vs, h.below hb⟩
theorem put_any (h : Is pr w p sb ob wb n s) (i : Int) {x a b : Int} (hab : pr x = (a, b)) : Calls Tryd.prog 17 #[.pointer (some ⟨p, 0, none⟩), .int .i64 i, .agg #[.int .i64 a, .int .i64 b]] w fun e w' => e = .returned (.int .i64 (putR n s i)) ∧ Is pr w' p sb ob wb n (putS n s i x) ∧ Only (Mine sb wb) w w' := by
  obtain ⟨vs, h⟩ := h
  unfold putS putR inR
  by_cases hi : 0 ≤ i ∧ i < n
  · rw [decide_eq_true hi]
    obtain ⟨k, rfl⟩ := Int.eq_ofNat_of_zero_le hi.1
    have hk : k < n := by omega
    rw [if_pos rfl, Int.toNat_natCast]
    cases hf : s.on k with
    | true =>
      rw [if_pos rfl, if_neg (by decide)]
      exact (put_there h rfl hk hf a b).mono fun e w' ⟨h1, h2⟩ => ⟨h1, ⟨vs, h.below h2⟩, Only.of_below h2⟩
    | false =>
      rw [if_neg (by decide), if_pos rfl]
      exact (put_yes h hk hf hab).mono fun e w' ⟨h1, vs', h2, h3⟩ => ⟨h1, ⟨vs', h2⟩, h3⟩
  · rw [decide_eq_false hi, if_neg (by decide), if_neg (by decide)]
    exact (put_out h hi a b).mono fun e w' ⟨h1, h2⟩ => ⟨h1, ⟨vs, h.below h2⟩, Only.of_below h2⟩
theorem take_any (h : Is pr w p sb ob wb n s) (i : Int) : Calls Tryd.prog 18 #[.pointer (some ⟨p, 0, none⟩), .int .i64 i] w fun e w' => e = .returned (.tuple #[.agg #[.int .i64 (pr (takeR n s i).1).1, .int .i64 (pr (takeR n s i).1).2], .int .i64 (takeR n s i).2]) ∧ Is pr w' p sb ob wb n (takeS n s i) ∧ Only (Mine sb wb) w w' := by
  obtain ⟨vs, h⟩ := h
  have z := h.z
  unfold takeS takeR inR
  by_cases hi : 0 ≤ i ∧ i < n
  · rw [decide_eq_true hi]
    obtain ⟨k, rfl⟩ := Int.eq_ofNat_of_zero_le hi.1
    have hk : k < n := by omega
    rw [if_pos rfl, Int.toNat_natCast]
    cases hf : s.on k with
    | true =>
      rw [if_pos rfl, if_pos rfl]
      exact (take_yes h hk hf (show pr (s.xs.getD k 0) = ((pr (s.xs.getD k 0)).1, (pr (s.xs.getD k 0)).2) from rfl)).mono fun e w' ⟨h1, vs', h2, h3⟩ => ⟨h1, ⟨vs', h2⟩, h3⟩
    | false =>
      rw [if_neg (by decide), if_neg (by decide)]
      dsimp only
      rw [z]
      exact (take_none h hk hf).mono fun e w' ⟨h1, h2⟩ => ⟨h1, ⟨vs, h.below h2⟩, Only.of_below h2⟩
  · rw [decide_eq_false hi, if_neg (by decide), if_neg (by decide)]
    dsimp only
    rw [z]
    exact (take_out h hi).mono fun e w' ⟨h1, h2⟩ => ⟨h1, ⟨vs, h.below h2⟩, Only.of_below h2⟩
theorem move_any (h : Is pr w p sb ob wb n s) (i j : Int) : Calls Tryd.prog 19 #[.pointer (some ⟨p, 0, none⟩), .int .i64 i, .int .i64 j] w fun e w' => e = .returned (.int .i64 (moveR n s i j)) ∧ Is pr w' p sb ob wb n (moveS n s i j) ∧ Only (Mine sb wb) w w' := by
  obtain ⟨vs, h⟩ := h
  unfold moveS moveR inR
  by_cases hi : (0 ≤ i ∧ i < n) ∧ 0 ≤ j ∧ j < n
  · rw [decide_eq_true hi.1, decide_eq_true hi.2]
    obtain ⟨k, rfl⟩ := Int.eq_ofNat_of_zero_le hi.1.1
    obtain ⟨m, rfl⟩ := Int.eq_ofNat_of_zero_le hi.2.1
    have hk : k < n := by omega
    have hm : m < n := by omega
    rw [Bool.and_self, if_pos rfl, Int.toNat_natCast, Int.toNat_natCast]
    cases hf : s.on k with
    | false =>
      rw [if_neg (by decide), if_neg (by decide)]
      exact (move_none h hk hm hf).mono fun e w' ⟨h1, h2⟩ => ⟨h1, ⟨vs, h.below h2⟩, Only.of_below h2⟩
    | true =>
      rw [if_pos rfl]
      cases hf2 : s.on m with
      | true =>
        rw [if_pos rfl, if_neg (by decide)]
        exact (move_there h hk hm hf hf2).mono fun e w' ⟨h1, h2⟩ => ⟨h1, ⟨vs, h.below h2⟩, Only.of_below h2⟩
      | false =>
        rw [if_neg (by decide), if_pos rfl]
        exact (move_yes h hk hm hf hf2).mono fun e w' ⟨h1, vs', h2, h3⟩ => ⟨h1, ⟨vs', h2⟩, h3⟩
  · have e : (decide (0 ≤ i ∧ i < (n : Int)) && decide (0 ≤ j ∧ j < (n : Int))) = false := by
      rw [← Bool.decide_and, decide_eq_false hi]
    rw [e, if_neg (by decide), if_neg (by decide)]
    exact (move_out h hi).mono fun e w' ⟨h1, h2⟩ => ⟨h1, ⟨vs, h.below h2⟩, Only.of_below h2⟩
theorem is_lt (h : Is pr w p sb ob wb n s) : ∀ k ∈ [p, sb, ob, wb], k < w.heap.size := by
  obtain ⟨vs, h⟩ := h
  intro k hk
  simp only [List.mem_cons, List.not_mem_nil, or_false] at hk
  rcases hk with rfl | rfl | rfl | rfl
  · exact blk_lt h.hp
  · exact blk_lt h.hs
  · exact blk_lt h.bits.ho
  · exact blk_lt h.bits.hw
end
/-- An array of pairs with gaps. -/
def ArrP (pr : Int → Int × Int) (p sb ob wb n : Nat) (s : Gap) : S1.Ob where
  F := [p, sb, ob, wb]
  P := fun w => Is pr w p sb ob wb n s
  st := fun hs ⟨vs, h⟩ => ⟨vs, SlAt.stay (K := [p, sb, ob, wb]) h hs (by simp) (by simp) (by simp) (by simp)⟩
section
variable {pr : Int → Int × Int} {w0 w w' : World} {l : List S1.Ob} {p sb ob wb n : Nat} {s s' : Gap}
theorem sep_arr (h : S1.Sep w0 w l) (i : Nat) (e : l[i]? = some (ArrP pr p sb ob wb n s)) : Is pr w p sb ob wb n s := h.get i e
theorem sep_new (h : S1.Sep w0 w l) (hb : Below w.heap.size w w') (hs : Is pr w' p sb ob wb n s) (h4 : w.heap.size ≤ p ∧ w.heap.size ≤ sb ∧ w.heap.size ≤ ob ∧ w.heap.size ≤ wb) : S1.Sep w0 w' (l ++ [ArrP pr p sb ob wb n s]) :=
  h.push hb _ hs fun k hk => ⟨by
    have hk' := hk
    simp only [ArrP, List.mem_cons, List.not_mem_nil, or_false] at hk'
    omega, is_lt hs k hk⟩
theorem sep_turn (h : S1.Sep w0 w l) (i : Nat) (e : l[i]? = some (ArrP pr p sb ob wb n s)) (ho : Only (Mine sb wb) w w') (hs : Is pr w' p sb ob wb n s') : S1.Sep w0 w' (l.set i (ArrP pr p sb ob wb n s')) :=
  h.turn i e ho (fun k hk => by rcases hk with rfl | rfl <;> simp [ArrP]) _ hs (fun k hk => .inl hk)
end
/-- A row of pairs of a function's own. -/
def OwnP (pr : Int → Int × Int) (v : Value) (xs : List Int) : S1.Ob where
  F := v.ownBlock.toList
  P := fun w => w.ownsRow 0 30 2 v xs.length (prs pr xs)
  st := fun hs h => own_move h fun k hk => hs k (by rw [hk]; simp)
theorem sep_ownP {pr : Int → Int × Int} {w0 w w' : World} {l : List S1.Ob} (h : S1.Sep w0 w l) (hb : Below w.heap.size w w') {v : Value} {xs : List Int} (hr : w'.ownsRow w.heap.size 30 2 v xs.length (prs pr xs)) : S1.Sep w0 w' (l ++ [OwnP pr v xs]) :=
  h.push hb _ (own_low hr (Nat.zero_le _)) fun k hk => by
    have hk' : v.ownBlock = some k := by simpa [OwnP] using hk
    exact ⟨own_base hr k hk', own_lt hr k hk'⟩
/-- A pair of a row. -/
theorem own_cellP {pr : Int → Int × Int} {w0 w : World} {l : List S1.Ob} (h : S1.Sep w0 w l) (i : Nat) {A : Option Addr} {m c : Nat} {xs : List Int} (e : l[i]? = some (OwnP pr (.slice A m c) xs)) {j : Nat} (hj : j < xs.length) : ∃ b, A = some ⟨b, 0, none⟩ ∧ w.cell? ⟨b, j * 2, none⟩ = some (.int .i64 (pr (xs.getD j 0)).1) := by
  have h0 : w.ownsRow 0 30 2 (.slice A m c) xs.length (prs pr xs) := h.get i e
  rcases h0.2 with ⟨_, h2⟩ | ⟨b, cap, cur, h1, _⟩
  · omega
  · have hA : A = some ⟨b, 0, none⟩ := by simpa using (Value.slice.inj h1).1
    subst hA
    refine ⟨b, rfl, ?_⟩
    have := h0.cells (g := b) rfl (j * 2) _ (prs_at xs j hj).1
    rwa [add_plain] at this
end Go.Proofs.YtbjkncgpoengaaaDoor.HP
