/- Walks of the arrays of pairs with gaps: made, looked at. An element is a number's pair (pr). -/
import Derived.Test.YtbjkncgpoengaaaDoorS1
import Derived.Test.YtbjkncgpoengaaaDoorG11
import Derived.Deep.Slices
namespace Go.Proofs.YtbjkncgpoengaaaDoor.HP
open Go.RowKit Go.Shelf Go.Proofs.YtbjkncgpoengaaaDoorW.PrintWords Go.Proofs.YtbjkncgpoengaaaDoorW.PrintLast Go.Proofs.YtbjkncgpoengaaaDoorW.PrintMore G1 G0 Q1 G2 G3 G4 G5 G6 G7 G8 G9 G10 G11
set_option linter.unusedVariables false
set_option linter.unusedSimpArgs false
/-- The cells of numbers' pairs. -/
def prs (pr : Int → Int × Int) (xs : List Int) : List Value := xs.flatMap fun x => [.int .i64 (pr x).1, .int .i64 (pr x).2]
section
variable {pr : Int → Int × Int}
theorem prs_cons (x : Int) (xs : List Int) : prs pr (x :: xs) = .int .i64 (pr x).1 :: .int .i64 (pr x).2 :: prs pr xs := rfl
theorem prs_length (xs : List Int) : (prs pr xs).length = xs.length * 2 := by
  induction xs with
  | nil => rfl
  | cons x xs ih => rw [prs_cons]; simp only [List.length_cons, ih]; omega
theorem prs_at : ∀ (xs : List Int) (i : Nat), i < xs.length → (prs pr xs)[i * 2]? = some (.int .i64 (pr (xs.getD i 0)).1) ∧ (prs pr xs)[i * 2 + 1]? = some (.int .i64 (pr (xs.getD i 0)).2) := by
  intro xs
  induction xs with
  | nil => intro i h; simp at h
  | cons x xs ih =>
    intro i h
    cases i with
    | zero => exact ⟨rfl, rfl⟩
    | succ i =>
      have := ih i (by simpa using h)
      rw [prs_cons, show (i + 1) * 2 = i * 2 + 1 + 1 by omega]
      exact this
theorem prs_set : ∀ (xs : List Int) (i : Nat) (x : Int), ((prs pr xs).set (i * 2) (.int .i64 (pr x).1)).set (i * 2 + 1) (.int .i64 (pr x).2) = prs pr (xs.set i x) := by
  intro xs
  induction xs with
  | nil => intro i x; simp [prs]
  | cons s xs ih =>
    intro i x
    cases i with
    | zero => rfl
    | succ i =>
      rw [prs_cons, show (i + 1) * 2 = i * 2 + 1 + 1 by omega]
      simp only [List.set_cons_succ, prs_cons]
      rw [ih]
theorem prs_zero (z : pr 0 = (0, 0)) (n : Nat) : madeCells #[.int .i64 0, .int .i64 0] (n * 2) = (prs pr (List.replicate n 0)).toArray := by
  apply Array.ext'
  apply List.ext_getElem?
  intro i
  have hl : (madeCells #[.int .i64 0, .int .i64 0] (n * 2)).size = n * 2 := by simp [size_madeCells]
  by_cases hi : i < n * 2
  · have h1 : (madeCells #[.int .i64 0, .int .i64 0] (n * 2)).toList[i]? = some (.int .i64 0) := by
      rw [Array.getElem?_toList]
      simp only [madeCells]
      rcases Nat.mod_two_eq_zero_or_one i with h | h <;> simp [hi, h]
    rw [h1]
    have e : i = (i / 2) * 2 ∨ i = (i / 2) * 2 + 1 := by omega
    have hh := prs_at (pr := pr) (List.replicate n 0) (i / 2) (by simp; omega)
    have e0 : (List.replicate n (0 : Int)).getD (i / 2) 0 = 0 := by simp [List.getD_eq_getElem?_getD, List.getElem?_replicate]; split <;> rfl
    rw [e0, z] at hh
    rcases e with e | e
    · rw [e]; exact hh.1.symm
    · rw [e]; exact hh.2.symm
  · rw [List.getElem?_eq_none (by simpa using (by omega : (madeCells #[.int .i64 0, .int .i64 0] (n * 2)).size ≤ i)), List.getElem?_eq_none (by simp [prs_length]; omega)]
end
/-- An array of pairs with gaps: its blocks, which slots are on, what they hold (the number of each pair). -/
structure SlAt (pr : Int → Int × Int) (w : World) (p sb ob wb n : Nat) (f : Nat → Bool) (xs : List Int) (vs : List Nat) : Prop where
  z : pr 0 = (0, 0)
  hp : w.heap[p]? = some (.cells #[.slice (some ⟨sb, 0, none⟩) n xs.length, .pointer (some ⟨ob, 0, none⟩)] 82 (0, 0))
  hs : w.heap[sb]? = some (.cells (prs pr xs).toArray 30 (0, 0))
  len : n ≤ xs.length
  bits : BitsAt w ob wb n f vs
section
variable {pr : Int → Int × Int} {w w' : World} {p sb ob wb n : Nat} {f : Nat → Bool} {xs : List Int} {vs : List Nat}
theorem SlAt.below (h : SlAt pr w p sb ob wb n f xs vs) (hb : Below w.heap.size w w') : SlAt pr w' p sb ob wb n f xs vs :=
  ⟨h.z, blk_below h.hp hb, blk_below h.hs hb, h.len, h.bits.below hb⟩
theorem SlAt.only {S : Nat → Prop} (h : SlAt pr w p sb ob wb n f xs vs) (hb : Only S w w') (h1 : ¬ S p) (h2 : ¬ S sb) (h3 : ¬ S ob) (h4 : ¬ S wb) : SlAt pr w' p sb ob wb n f xs vs :=
  ⟨h.z, hb.blk h.hp h1, hb.blk h.hs h2, h.len, h.bits.only hb h3 h4⟩
theorem SlAt.apart (h : SlAt pr w p sb ob wb n f xs vs) : p ≠ sb ∧ p ≠ ob ∧ p ≠ wb ∧ sb ≠ ob ∧ sb ≠ wb ∧ ob ≠ wb :=
  ⟨blk_ne h.hp h.hs (by decide), blk_ne h.hp h.bits.ho (by decide), blk_ne h.hp h.bits.hw (by decide), blk_ne h.hs h.bits.ho (by decide), blk_ne h.hs h.bits.hw (by decide), h.bits.ne⟩
theorem SlAt.c0 (h : SlAt pr w p sb ob wb n f xs vs) : w.cell? ⟨p, 0, none⟩ = some (.slice (some ⟨sb, 0, none⟩) n xs.length) := (blk_cell h.hp 0).trans rfl
theorem SlAt.c1 (h : SlAt pr w p sb ob wb n f xs vs) : w.cell? ⟨p, 1, none⟩ = some (.pointer (some ⟨ob, 0, none⟩)) := (blk_cell h.hp 1).trans rfl
theorem SlAt.cell (h : SlAt pr w p sb ob wb n f xs vs) {i : Nat} (hi : i < n) : w.cell? ⟨sb, i * 2, none⟩ = some (.int .i64 (pr (xs.getD i 0)).1) ∧ w.cell? ⟨sb, i * 2 + 1, none⟩ = some (.int .i64 (pr (xs.getD i 0)).2) := by
  rw [blk_cell h.hs, blk_cell h.hs]
  simpa using prs_at (pr := pr) xs i (Nat.lt_of_lt_of_le hi h.len)
/-- An element is put, or taken: its cells. -/
theorem SlAt.store (h : SlAt pr w p sb ob wb n f xs vs) {i : Nat} (x : Int) : SlAt pr ((w.setCell ⟨sb, i * 2, none⟩ (.int .i64 (pr x).1)).setCell ⟨sb, i * 2 + 1, none⟩ (.int .i64 (pr x).2)) p sb ob wb n f (xs.set i x) vs := by
  obtain ⟨a1, a2, a3, a4, a5, a6⟩ := h.apart
  have ho : Only (· = sb) w ((w.setCell ⟨sb, i * 2, none⟩ (.int .i64 (pr x).1)).setCell ⟨sb, i * 2 + 1, none⟩ (.int .i64 (pr x).2)) := (Only.set (· = sb) w (p := ⟨sb, i * 2, none⟩) rfl _).trans (Only.set (· = sb) _ (p := ⟨sb, i * 2 + 1, none⟩) rfl _)
  refine ⟨h.z, by rw [List.length_set]; exact ho.blk h.hp a1, ?_, by rw [List.length_set]; exact h.len, h.bits.only ho (fun e => a4 e.symm) (fun e => a5 e.symm)⟩
  rw [blk_set (blk_set h.hs (i * 2) (.int .i64 (pr x).1)) (i * 2 + 1) (.int .i64 (pr x).2), ← prs_set xs i x]
  simp
end
theorem info_two : (Tryd.prog.info? 30).map (fun i => (i.zero, i.size, i.bytes)) = some (some (.agg #[.int .i64 0, .int .i64 0]), 2, 16) := by kernel_rfl
theorem make_twos {pr : Int → Int × Int} (z : pr 0 = (0, 0)) (n : Nat) (hn : n ≤ 1000000) (W : World) : (Instr.makeSlice 39 (.int .i64 (n : Int)) (.int .i64 (n : Int))).run Tryd.prog W = .ok (.slice (some ⟨W.heap.size, 0, none⟩) n n) (W.alloc (.cells (prs pr (List.replicate n 0)).toArray 30)) := by
  obtain ⟨i, hi, hzz⟩ := Option.map_eq_some_iff.1 info_two
  simp only [Prod.mk.injEq] at hzz
  obtain ⟨hz, hs, hb⟩ := hzz
  have h := run_make (P := Tryd.prog) W 39 30 i _ Tryd.underlying39 hi hz .i64 .i64 (n : Int) (n : Int) (by omega) (by omega) (by rw [hb]; omega) (by omega)
  rw [hs, Int.toNat_natCast, show (Value.agg #[.int .i64 0, .int .i64 0]).cells = #[.int .i64 0, .int .i64 0] from rfl, prs_zero z n] at h
  exact h
theorem gnew_yes {pr : Int → Int × Int} (z : pr 0 = (0, 0)) (n : Nat) (w : World) (h1 : 1 ≤ n) (h2 : n ≤ 65536) : Calls Tryd.prog 15 #[.int .i64 n] w fun e w' => ∃ p sb ob wb, e = .returned (.tuple #[.pointer (some ⟨p, 0, none⟩), .int .i64 0]) ∧ (w.heap.size ≤ p ∧ w.heap.size ≤ sb ∧ w.heap.size ≤ ob ∧ w.heap.size ≤ wb) ∧ SlAt pr w' p sb ob wb n (fun _ => false) (List.replicate n 0) (List.replicate ((n + 63) / 64) 0) ∧ Below w.heap.size w w' := by
  have H := Aside0.mk (new_yes n w h1 h2)
  have hmk := make_twos z n (by omega)
  have hz := Aside0.mk z
  clear z
  go_enter Tryd.func15, Tryd.ntmps15
  go_wp2_with fail
  refine H.out.mono ?_
  rintro e w1 ⟨ob, wb, rfl, a1, a2, hb, hB⟩
  have HH := Aside0.mk (And.intro a1 (And.intro a2 (And.intro hb hB)))
  clear a1 a2 hb hB H
  go_wp2
  go_ret2
  have k1 := blk_new w1 (.cells (prs pr (List.replicate n 0)).toArray 30)
  have k2 := blk_new (w1.alloc (.cells (prs pr (List.replicate n 0)).toArray 30)) (.cells #[.slice (some ⟨w1.heap.size, 0, none⟩) n n, .pointer (some ⟨ob, 0, none⟩)] 82)
  simp only [World.size_alloc] at k2
  have B2 := below_alloc (below_alloc (Below.refl w1.heap.size w1) (.cells (prs pr (List.replicate n 0)).toArray 30)) (.cells #[.slice (some ⟨w1.heap.size, 0, none⟩) n n, .pointer (some ⟨ob, 0, none⟩)] 82)
  have hsz := HH.out.2.2.2.size
  exact ⟨w1.heap.size + 1, w1.heap.size, ob, wb, rfl, ⟨by omega, by omega, HH.out.1, HH.out.2.1⟩, ⟨hz.out, by rw [List.length_replicate]; exact k2, blk_alloc k1 _, by simp, HH.out.2.2.1.below B2⟩, below_step HH.out.2.2.2 B2⟩
section
variable {pr : Int → Int × Int} {w : World} {p sb ob wb n : Nat} {f : Nat → Bool} {xs : List Int} {vs : List Nat}
theorem snext_any (h : SlAt pr w p sb ob wb n f xs vs) (hT : Tb w) (i : Int) : Calls Tryd.prog 75 #[.pointer (some ⟨p, 0, none⟩), .int .i64 i] w fun e w' => e = .returned (.int .i64 (nextI f n i)) ∧ Drawn0 w w' := by
  have c1 := h.c1
  have H := Aside0.mk (next_any h.bits hT i)
  clear h hT
  go_enter Tryd.func75, Tryd.ntmps75
  go_wp2_with fail
  refine H.out.mono ?_
  rintro e w1 ⟨rfl, hw⟩
  go_wp2
  go_ret
  exact ⟨rfl, hw⟩
theorem look_any (h : SlAt pr w p sb ob wb n f xs vs) {A : Option Addr} {c : Nat} {l : List Int} (hr : Kd.C (Kd.int .i64) w A l.length l) (hl : l.length ≤ 100) : Calls Tryd.prog 53 #[.pointer (some ⟨p, 0, none⟩), .slice A l.length c] w fun e w' => e = .returned (.int .i64 (lookE n l)) ∧ w = w' := by
  have c0 := h.c0
  have HR := Aside0.mk hr
  have hn := h.bits.high
  clear h hr
  go_enter Tryd.func53, Tryd.ntmps53
  go_wp2
  go_loopg [6, 11] l.length (fun kq v6 v11 w' => ∃ k : Nat, v11 = .int .i64 k ∧ k ≤ l.length ∧ Aside0 (l.length - k ≤ kq) ∧ Aside0 (∀ j, j < k → 0 ≤ l.getD j 0 ∧ l.getD j 0 < n) ∧ w = w')
  case atStart => exact ⟨0, rfl, by omega, ⟨by omega⟩, ⟨fun j hj => by omega⟩, rfl⟩
  case round =>
    obtain ⟨k, rfl, hk, HQ, HA, rfl⟩ := hrel
    by_cases hlt : k < l.length
    · obtain ⟨ad, e, hx⟩ := Kd.at_int HR.out (k : Int) (by omega) (by omega)
      cases e
      rw [Int.toNat_natCast, show rd l (k : Int) = l.getD k 0 from rfl] at hx
      by_cases hg : 0 ≤ l.getD k 0 ∧ l.getD k 0 < n
      · have HN : Aside0 (∀ j, j < k + 1 → 0 ≤ l.getD j 0 ∧ l.getD j 0 < n) := ⟨fun j hj => by
          by_cases e : j = k
          · subst e; exact hg
          · exact HA.out j (by omega)⟩
        generalize l.getD k 0 = x at *
        have g1 : decide (x < 0) = false := decide_eq_false (by omega)
        have g2 : decide ((n : Int) ≤ x) = false := decide_eq_false (by omega)
        have g3 : ¬ x < 0 := by omega
        have g4 : ¬ (n : Int) ≤ x := by omega
        obtain ⟨gk, rfl⟩ : ∃ m, gk = m + 1 := ⟨gk - 1, by have := HQ.out; omega⟩
        clear hg
        go_wp2
        go_roundg gk
        case measure => omega
        case rel => exact ⟨k + 1, by go_num, by omega, ⟨by have := HQ.out; omega⟩, HN, rfl⟩
      · have HE : Aside0 (lookE n l = 10) := ⟨by
          unfold lookE
          rw [if_neg]
          intro hall
          rw [List.all_eq_true] at hall
          have hm := hall (l.getD k 0) (by rw [List.getD_eq_getElem?_getD, List.getElem?_eq_getElem hlt]; exact List.getElem_mem hlt)
          exact hg (of_decide_eq_true hm)⟩
        generalize l.getD k 0 = x at *
        by_cases h0 : x < 0
        · clear hg
          go_wp2
          go_ret
          exact ⟨by rw [HE.out]; rfl, rfl⟩
        · have g2 : (n : Int) ≤ x := by omega
          clear hg
          go_wp2
          go_ret
          exact ⟨by rw [HE.out]; rfl, rfl⟩
    · have HE : Aside0 (lookE n l = 0) := ⟨by
        unfold lookE
        rw [if_pos]
        rw [List.all_eq_true]
        intro x hx
        obtain ⟨j, hj, rfl⟩ := List.mem_iff_getElem.1 hx
        have := HA.out j (by omega)
        rw [List.getD_eq_getElem?_getD, List.getElem?_eq_getElem hj] at this
        exact decide_eq_true this⟩
      go_wp2
      go_ret
      exact ⟨by rw [HE.out]; rfl, rfl⟩
end
end Go.Proofs.YtbjkncgpoengaaaDoor.HP
