/- Walks of the arrays with gaps: an element moved. -/
import Derived.Test.YtbjkncgpoengaaaDoorG6
namespace Go.Proofs.YtbjkncgpoengaaaDoor.G7
open Go.RowKit Go.Proofs.YtbjkncgpoengaaaDoorW.PrintWords Go.Proofs.YtbjkncgpoengaaaDoorW.PrintLast Go.Proofs.YtbjkncgpoengaaaDoorW.PrintMore G1 G0 Q1 G2 G3 G4 G5 G6
set_option linter.unusedVariables false
set_option linter.unusedSimpArgs false
section
variable {w : World} {p sb ob wb n : Nat} {f : Nat → Bool} {xs : List Int} {vs : List Nat}
theorem move_out (h : SlAt w p sb ob wb n f xs vs) {i j : Int} (hi : ¬ ((0 ≤ i ∧ i < n) ∧ 0 ≤ j ∧ j < n)) : Calls Tryd.prog 42 #[.pointer (some ⟨p, 0, none⟩), .int .i64 i, .int .i64 j] w fun e w' => e = .returned (.int .i64 10) ∧ Below w.heap.size w w' := by
  have L := look_two h i j
  rw [if_neg hi] at L
  have HL := Aside0.mk L
  have HB := Aside0.mk (below_alloc (Below.refl w.heap.size w) (.cells #[.int .i64 i, .int .i64 j] 3))
  clear h L hi
  go_enter Tryd.func42, Tryd.ntmps42
  go_wp2_with fail
  refine HL.out.mono ?_
  rintro e w1 ⟨rfl, rfl⟩
  go_wp2
  go_ret
  exact ⟨rfl, HB.out⟩
theorem move_none (h : SlAt w p sb ob wb n f xs vs) {i j : Nat} (hi : i < n) (hj : j < n) (hf : f i = false) : Calls Tryd.prog 42 #[.pointer (some ⟨p, 0, none⟩), .int .i64 i, .int .i64 j] w fun e w' => e = .returned (.int .i64 14) ∧ Below w.heap.size w w' := by
  have L := look_two h i j
  rw [if_pos (by omega)] at L
  have HL := Aside0.mk L
  have hb := below_alloc (Below.refl w.heap.size w) (.cells #[.int .i64 i, .int .i64 j] 3)
  have HB := Aside0.mk hb
  have h2 := h.below hb
  have c1 := h2.c1
  have H := has_in h2.bits hi
  rw [hf] at H
  have HH := Aside0.mk H
  clear h L hf h2 hb H
  go_enter Tryd.func42, Tryd.ntmps42
  go_wp2_with fail
  refine HL.out.mono ?_
  rintro e w1 ⟨rfl, rfl⟩
  go_wp2_with fail
  refine HH.out.mono ?_
  rintro e w1 ⟨rfl, rfl⟩
  go_wp2
  go_ret
  exact ⟨rfl, HB.out⟩
theorem move_there (h : SlAt w p sb ob wb n f xs vs) {i j : Nat} (hi : i < n) (hj : j < n) (hf : f i = true) (hf2 : f j = true) : Calls Tryd.prog 42 #[.pointer (some ⟨p, 0, none⟩), .int .i64 i, .int .i64 j] w fun e w' => e = .returned (.int .i64 15) ∧ Below w.heap.size w w' := by
  have L := look_two h i j
  rw [if_pos (by omega)] at L
  have HL := Aside0.mk L
  have hb := below_alloc (Below.refl w.heap.size w) (.cells #[.int .i64 i, .int .i64 j] 3)
  have HB := Aside0.mk hb
  have h2 := h.below hb
  have c1 := h2.c1
  have H := has_in h2.bits hi
  rw [hf] at H
  have HH := Aside0.mk H
  have G := has_in h2.bits hj
  rw [hf2] at G
  have HG := Aside0.mk G
  clear h L hf hf2 h2 hb H G
  go_enter Tryd.func42, Tryd.ntmps42
  go_wp2_with fail
  refine HL.out.mono ?_
  rintro e w1 ⟨rfl, rfl⟩
  go_wp2_with fail
  refine HH.out.mono ?_
  rintro e w1 ⟨rfl, rfl⟩
  go_wp2_with fail
  refine HG.out.mono ?_
  rintro e w1 ⟨rfl, rfl⟩
  go_wp2
  go_ret
  exact ⟨rfl, HB.out⟩
theorem move_yes (h : SlAt w p sb ob wb n f xs vs) {i j : Nat} (hi : i < n) (hj : j < n) (hf : f i = true) (hf2 : f j = false) : Calls Tryd.prog 42 #[.pointer (some ⟨p, 0, none⟩), .int .i64 i, .int .i64 j] w fun e w' => e = .returned (.int .i64 0) ∧ ∃ vs', SlAt w' p sb ob wb n (upd (upd f i false) j true) ((xs.set i 0).set j (xs.getD i 0)) vs' ∧ Only (Mine sb wb) w w' := by
  have L := look_two h i j
  rw [if_pos (by omega)] at L
  have HL := Aside0.mk L
  have hb := below_alloc (Below.refl w.heap.size w) (.cells #[.int .i64 i, .int .i64 j] 3)
  have HB := Aside0.mk hb
  have h2 := h.below hb
  have c1 := h2.c1
  have H := has_in h2.bits hi
  rw [hf] at H
  have HH := Aside0.mk H
  have G := has_in h2.bits hj
  rw [hf2] at G
  have HG := Aside0.mk G
  have HT := Aside0.mk (take_yes h2 hi hf)
  have hne : j ≠ i := fun e => by rw [e, hf] at hf2; cases hf2
  have hu : upd f i false j = false := by unfold upd; rw [if_neg hne]; exact hf2
  have HU := Aside0.mk hu
  obtain ⟨x, hx⟩ : ∃ x, xs.getD i 0 = x := ⟨_, rfl⟩
  rw [hx] at HT
  clear h L hf hf2 h2 hb H G hne hu
  rw [hx]
  clear hx
  go_enter Tryd.func42, Tryd.ntmps42
  go_wp2_with fail
  refine HL.out.mono ?_
  rintro e w1 ⟨rfl, rfl⟩
  go_wp2_with fail
  refine HH.out.mono ?_
  rintro e w1 ⟨rfl, rfl⟩
  go_wp2_with fail
  refine HG.out.mono ?_
  rintro e w1 ⟨rfl, rfl⟩
  go_wp2_with fail
  refine HT.out.mono ?_
  rintro e w2 ⟨rfl, vs1, h3, o1⟩
  have H3 := Aside0.mk (And.intro h3 o1)
  clear h3 o1
  go_wp2_with fail
  refine (put_yes H3.out.1 hj HU.out x).mono ?_
  rintro e w3 ⟨rfl, vs2, h4, o2⟩
  have H4 := Aside0.mk (And.intro h4 o2)
  clear h4 o2
  go_wp2
  go_ret
  exact ⟨rfl, vs2, H4.out.1, ((Only.of_below HB.out).then_ H3.out.2 (fun _ h => .inl h)).trans H4.out.2⟩
end
end Go.Proofs.YtbjkncgpoengaaaDoor.G7
