/- Walks of the arrays with gaps: an element moved. -/
import Derived.Test.YtbjkncgpoengaaaDoorJ7
namespace Go.Proofs.YtbjkncgpoengaaaDoor.HP
open Go.RowKit Go.Shelf Go.Proofs.YtbjkncgpoengaaaDoorW.PrintWords Go.Proofs.YtbjkncgpoengaaaDoorW.PrintLast Go.Proofs.YtbjkncgpoengaaaDoorW.PrintMore G1 G0 Q1 G2 G3 G4 G5 G6 G7 G8 G9 G10 G11
set_option linter.unusedVariables false
set_option linter.unusedSimpArgs false
section
variable {pr : Int → Int × Int} {w : World} {p sb ob wb n : Nat} {f : Nat → Bool} {xs : List Int} {vs : List Nat}
theorem move_out (h : SlAt pr w p sb ob wb n f xs vs) {i j : Int} (hi : ¬ ((0 ≤ i ∧ i < n) ∧ 0 ≤ j ∧ j < n)) : Calls Tryd.prog 19 #[.pointer (some ⟨p, 0, none⟩), .int .i64 i, .int .i64 j] w fun e w' => e = .returned (.int .i64 10) ∧ Below w.heap.size w w' := by
  have L := look_two h i j
  rw [if_neg hi] at L
  have HL := Aside0.mk L
  have HB := Aside0.mk (below_alloc (Below.refl w.heap.size w) (.cells #[.int .i64 i, .int .i64 j] 3))
  clear h L hi
  go_enter Tryd.func19, Tryd.ntmps19
  go_wp2_with fail
  refine HL.out.mono ?_
  rintro e w1 ⟨rfl, rfl⟩
  go_wp2
  go_ret
  exact ⟨rfl, HB.out⟩
theorem move_none (h : SlAt pr w p sb ob wb n f xs vs) {i j : Nat} (hi : i < n) (hj : j < n) (hf : f i = false) : Calls Tryd.prog 19 #[.pointer (some ⟨p, 0, none⟩), .int .i64 i, .int .i64 j] w fun e w' => e = .returned (.int .i64 14) ∧ Below w.heap.size w w' := by
  have L := look_two h i j
  rw [if_pos (by omega)] at L
  have HL := Aside0.mk L
  have hb := below_alloc (Below.refl w.heap.size w) (.cells #[.int .i64 i, .int .i64 j] 3)
  have HB := Aside0.mk hb
  have h2 := h.below hb
  have c1 := h2.c1
  have H := has_in h2.bits hi
  rw [hf] at H
  have HH := Aside0.mk H
  clear h L hf h2 hb H
  go_enter Tryd.func19, Tryd.ntmps19
  go_wp2_with fail
  refine HL.out.mono ?_
  rintro e w1 ⟨rfl, rfl⟩
  go_wp2_with fail
  refine HH.out.mono ?_
  rintro e w1 ⟨rfl, rfl⟩
  go_wp2
  go_ret
  exact ⟨rfl, HB.out⟩
theorem move_there (h : SlAt pr w p sb ob wb n f xs vs) {i j : Nat} (hi : i < n) (hj : j < n) (hf : f i = true) (hf2 : f j = true) : Calls Tryd.prog 19 #[.pointer (some ⟨p, 0, none⟩), .int .i64 i, .int .i64 j] w fun e w' => e = .returned (.int .i64 15) ∧ Below w.heap.size w w' := by
  have L := look_two h i j
  rw [if_pos (by omega)] at L
  have HL := Aside0.mk L
  have hb := below_alloc (Below.refl w.heap.size w) (.cells #[.int .i64 i, .int .i64 j] 3)
  have HB := Aside0.mk hb
  have h2 := h.below hb
  have c1 := h2.c1
  have H := has_in h2.bits hi
  rw [hf] at H
  have HH := Aside0.mk H
  have G := has_in h2.bits hj
  rw [hf2] at G
  have HG := Aside0.mk G
  clear h L hf hf2 h2 hb H G
  go_enter Tryd.func19, Tryd.ntmps19
  go_wp2_with fail
  refine HL.out.mono ?_
  rintro e w1 ⟨rfl, rfl⟩
  go_wp2_with fail
  refine HH.out.mono ?_
  rintro e w1 ⟨rfl, rfl⟩
  go_wp2_with fail
  refine HG.out.mono ?_
  rintro e w1 ⟨rfl, rfl⟩
  go_wp2
  go_ret
  exact ⟨rfl, HB.out⟩
theorem move_yes (h : SlAt pr w p sb ob wb n f xs vs) {i j : Nat} (hi : i < n) (hj : j < n) (hf : f i = true) (hf2 : f j = false) : Calls Tryd.prog 19 #[.pointer (some ⟨p, 0, none⟩), .int .i64 i, .int .i64 j] w fun e w' => e = .returned (.int .i64 0) ∧ ∃ vs', SlAt pr w' p sb ob wb n (upd (upd f i false) j true) ((xs.set i 0).set j (xs.getD i 0)) vs' ∧ Only (Mine sb wb) w w' := by
  have L := look_two h i j
  rw [if_pos (by omega)] at L
  have HL := Aside0.mk L
  have hb := below_alloc (Below.refl w.heap.size w) (.cells #[.int .i64 i, .int .i64 j] 3)
  have HB := Aside0.mk hb
  have h2 := h.below hb
  have c1 := h2.c1
  have H := has_in h2.bits hi
  rw [hf] at H
  have HH := Aside0.mk H
  have G := has_in h2.bits hj
  rw [hf2] at G
  have HG := Aside0.mk G
  have hne : j ≠ i := fun e => by rw [e, hf] at hf2; cases hf2
  have hu : upd f i false j = false := by unfold upd; rw [if_neg hne]; exact hf2
  have HU := Aside0.mk hu
  obtain ⟨a, b, hab⟩ : ∃ a b, pr (xs.getD i 0) = (a, b) := ⟨_, _, rfl⟩
  have HT := Aside0.mk (take_yes h2 hi hf hab)
  have HAB := Aside0.mk hab
  clear h L hf hf2 h2 hb H G hne hu hab
  go_enter Tryd.func19, Tryd.ntmps19
  go_wp2_with fail
  refine HL.out.mono ?_
  rintro e w1 ⟨rfl, rfl⟩
  go_wp2_with fail
  refine HH.out.mono ?_
  rintro e w1 ⟨rfl, rfl⟩
  go_wp2_with fail
  refine HG.out.mono ?_
  rintro e w1 ⟨rfl, rfl⟩
  go_wp2_with fail
  refine HT.out.mono ?_
  rintro e w2 ⟨rfl, vs1, h3, o1⟩
  have hb2 := below_alloc (Below.refl w2.heap.size w2) (.cells #[.int .i64 a, .int .i64 b] 30)
  have k1 := blk_new w2 (.cells #[.int .i64 a, .int .i64 b] 30)
  have d0 : (_ : Option Value) = some (.int .i64 a) := (blk_cell k1 0).trans rfl
  have d1 : (_ : Option Value) = some (.int .i64 b) := (blk_cell k1 1).trans rfl
  have CP := Aside0.mk (put_yes (h3.below hb2) hj HU.out (x := xs.getD i 0) HAB.out)
  have H3 := Aside0.mk (And.intro o1 hb2)
  clear h3 o1 hb2 k1 c1
  go_wp2_with fail
  refine CP.out.mono ?_
  rintro e w3 ⟨rfl, vs2, h4, o2⟩
  have H4 := Aside0.mk (And.intro h4 o2)
  clear h4 o2
  go_wp2
  go_ret
  exact ⟨rfl, vs2, H4.out.1, (((Only.of_below HB.out).then_ H3.out.1 (fun _ h => .inl h)).then_ (Only.of_below (S := Mine sb wb) H3.out.2) (fun _ h => .inl h)).then_ H4.out.2 (fun _ h => .inl h)⟩
end
end Go.Proofs.YtbjkncgpoengaaaDoor.HP
