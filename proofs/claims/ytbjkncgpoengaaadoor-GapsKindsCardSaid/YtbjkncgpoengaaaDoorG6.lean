/- Walks of the arrays with gaps: put, taken, moved. -/
import Derived.Test.YtbjkncgpoengaaaDoorG5
namespace Go.Proofs.YtbjkncgpoengaaaDoor.G6
open Go.RowKit Go.Proofs.YtbjkncgpoengaaaDoorW.PrintWords Go.Proofs.YtbjkncgpoengaaaDoorW.PrintLast Go.Proofs.YtbjkncgpoengaaaDoorW.PrintMore G1 G0 Q1 G2 G3 G4 G5
set_option linter.unusedVariables false
set_option linter.unusedSimpArgs false

theorem lit_reads (w : World) (l : List Int) (h : l.length ≤ 1000) : Kd.C (Kd.int .i64) (w.alloc (.cells (l.map (Value.int .i64)).toArray 3)) (some ⟨w.heap.size, 0, none⟩) l.length l := by
  refine ⟨rfl, by omega, fun _ => ⟨_, rfl, fun j p hp => ⟨[.int .i64 p], rfl, rfl, fun i u hu => ?_⟩⟩⟩
  obtain ⟨rfl, rfl⟩ : i = 0 ∧ u = .int .i64 p := by
    cases i with
    | zero => exact ⟨rfl, by simpa using hu.symm⟩
    | succ i => simp at hu
  rw [add_plain]
  refine (cell_of_row (w.alloc (.cells (l.map (Value.int .i64)).toArray 3)) w.heap.size _ _ 3 (0, 0) (blk_new w _)).trans ?_
  show (List.map (Value.int .i64) l).toArray[j * 1 + 0]? = _
  simp [hp]
/-- One slot turned. -/
def upd (f : Nat → Bool) (i : Nat) (on : Bool) : Nat → Bool := fun j => if j = i then on else f j
abbrev Mine (sb wb : Nat) : Nat → Prop := fun k => k = sb ∨ k = wb
section
variable {w : World} {p sb ob wb n : Nat} {f : Nat → Bool} {xs : List Int} {vs : List Nat}
theorem look_one (h : SlAt w p sb ob wb n f xs vs) (i : Int) : Calls Tryd.prog 67 #[.pointer (some ⟨p, 0, none⟩), .slice (some ⟨w.heap.size, 0, none⟩) 1 1] (w.alloc (.cells #[.int .i64 i] 3)) fun e w' => e = .returned (.int .i64 (if 0 ≤ i ∧ i < n then 0 else 10)) ∧ w.alloc (.cells #[.int .i64 i] 3) = w' := by
  have hb := below_alloc (Below.refl w.heap.size w) (.cells #[.int .i64 i] 3)
  have H := look_any (h.below hb) (c := 1) (lit_reads w [i] (by simp)) (by simp)
  have e : lookE n [i] = if 0 ≤ i ∧ i < n then 0 else 10 := by simp [lookE]
  rw [e] at H
  exact H
theorem look_two (h : SlAt w p sb ob wb n f xs vs) (i j : Int) : Calls Tryd.prog 67 #[.pointer (some ⟨p, 0, none⟩), .slice (some ⟨w.heap.size, 0, none⟩) 2 2] (w.alloc (.cells #[.int .i64 i, .int .i64 j] 3)) fun e w' => e = .returned (.int .i64 (if (0 ≤ i ∧ i < n) ∧ 0 ≤ j ∧ j < n then 0 else 10)) ∧ w.alloc (.cells #[.int .i64 i, .int .i64 j] 3) = w' := by
  have hb := below_alloc (Below.refl w.heap.size w) (.cells #[.int .i64 i, .int .i64 j] 3)
  have H := look_any (h.below hb) (c := 2) (lit_reads w [i, j] (by simp)) (by simp)
  have e : lookE n [i, j] = if (0 ≤ i ∧ i < n) ∧ 0 ≤ j ∧ j < n then 0 else 10 := by simp [lookE]
  rw [e] at H
  exact H
theorem put_out (h : SlAt w p sb ob wb n f xs vs) {i : Int} (hi : ¬ (0 ≤ i ∧ i < n)) (x : Int) : Calls Tryd.prog 49 #[.pointer (some ⟨p, 0, none⟩), .int .i64 i, .int .i64 x] w fun e w' => e = .returned (.int .i64 10) ∧ Below w.heap.size w w' := by
  have L := look_one h i
  rw [if_neg hi] at L
  have HL := Aside0.mk L
  have HB := Aside0.mk (below_alloc (Below.refl w.heap.size w) (.cells #[.int .i64 i] 3))
  clear h L hi
  go_enter Tryd.func49, Tryd.ntmps49
  go_wp2_with fail
  refine HL.out.mono ?_
  rintro e w1 ⟨rfl, rfl⟩
  go_wp2
  go_ret
  exact ⟨rfl, HB.out⟩
theorem put_there (h : SlAt w p sb ob wb n f xs vs) {i : Nat} (hi : i < n) (hf : f i = true) (x : Int) : Calls Tryd.prog 49 #[.pointer (some ⟨p, 0, none⟩), .int .i64 i, .int .i64 x] w fun e w' => e = .returned (.int .i64 15) ∧ Below w.heap.size w w' := by
  have L := look_one h i
  rw [if_pos (by omega)] at L
  have HL := Aside0.mk L
  have hb := below_alloc (Below.refl w.heap.size w) (.cells #[.int .i64 i] 3)
  have HB := Aside0.mk hb
  have h2 := h.below hb
  have c1 := h2.c1
  have H := has_in h2.bits hi
  rw [hf] at H
  have HH := Aside0.mk H
  clear h L hf h2 hb H
  go_enter Tryd.func49, Tryd.ntmps49
  go_wp2_with fail
  refine HL.out.mono ?_
  rintro e w1 ⟨rfl, rfl⟩
  go_wp2_with fail
  refine HH.out.mono ?_
  rintro e w1 ⟨rfl, rfl⟩
  go_wp2
  go_ret
  exact ⟨rfl, HB.out⟩
theorem put_yes (h : SlAt w p sb ob wb n f xs vs) {i : Nat} (hi : i < n) (hf : f i = false) (x : Int) : Calls Tryd.prog 49 #[.pointer (some ⟨p, 0, none⟩), .int .i64 i, .int .i64 x] w fun e w' => e = .returned (.int .i64 0) ∧ ∃ vs', SlAt w' p sb ob wb n (upd f i true) (xs.set i x) vs' ∧ Only (Mine sb wb) w w' := by
  have L := look_one h i
  rw [if_pos (by omega)] at L
  have HL := Aside0.mk L
  have hb := below_alloc (Below.refl w.heap.size w) (.cells #[.int .i64 i] 3)
  have HB := Aside0.mk hb
  have h2 := h.below hb
  have c0 := h2.c0
  have c1 := h2.c1
  have c2 := h2.cell hi
  have f2 := blk_frozen h2.hs i
  have H := has_in h2.bits hi
  rw [hf] at H
  have HH := Aside0.mk H
  have h3 := h2.store (i := i) x
  have H3 := Aside0.mk h3
  have d1 := h3.c1
  have HA := Aside0.mk h2.apart
  have HS := Aside0.mk (set_any h3.bits hi true)
  clear h L hf h2 hb H h3
  generalize xs.getD i 0 = x0 at c2
  go_enter Tryd.func49, Tryd.ntmps49
  go_wp2_with fail
  refine HL.out.mono ?_
  rintro e w1 ⟨rfl, rfl⟩
  go_wp2_with fail
  refine HH.out.mono ?_
  rintro e w1 ⟨rfl, rfl⟩
  go_wp2_with fail
  refine HS.out.mono ?_
  rintro e w2 ⟨rfl, vs', hb', ho⟩
  have HF := Aside0.mk (And.intro hb' ho)
  clear hb' ho
  go_wp2
  go_ret
  obtain ⟨a1, a2, a3, a4, a5, a6⟩ := HA.out
  have ho := HF.out.2
  refine ⟨rfl, vs', ⟨ho.blk H3.out.hp (fun e => a3 e), ho.blk H3.out.hs (fun e => a5 e), H3.out.len, HF.out.1⟩, ?_⟩
  exact ((Only.of_below HB.out).then_ (Only.set (Mine sb wb) _ (p := ⟨sb, i, none⟩) (.inl rfl) _) (fun _ h => .inl h)).then_ ho (fun k hk => .inl (.inr hk))
theorem take_out (h : SlAt w p sb ob wb n f xs vs) {i : Int} (hi : ¬ (0 ≤ i ∧ i < n)) : Calls Tryd.prog 48 #[.pointer (some ⟨p, 0, none⟩), .int .i64 i] w fun e w' => e = .returned (.tuple #[.int .i64 0, .int .i64 10]) ∧ Below w.heap.size w w' := by
  have L := look_one h i
  rw [if_neg hi] at L
  have HL := Aside0.mk L
  have HB := Aside0.mk (below_alloc (Below.refl w.heap.size w) (.cells #[.int .i64 i] 3))
  clear h L hi
  go_enter Tryd.func48, Tryd.ntmps48
  go_wp2_with fail
  refine HL.out.mono ?_
  rintro e w1 ⟨rfl, rfl⟩
  go_wp2
  go_ret2
  exact ⟨rfl, HB.out⟩
theorem take_none (h : SlAt w p sb ob wb n f xs vs) {i : Nat} (hi : i < n) (hf : f i = false) : Calls Tryd.prog 48 #[.pointer (some ⟨p, 0, none⟩), .int .i64 i] w fun e w' => e = .returned (.tuple #[.int .i64 0, .int .i64 14]) ∧ Below w.heap.size w w' := by
  have L := look_one h i
  rw [if_pos (by omega)] at L
  have HL := Aside0.mk L
  have hb := below_alloc (Below.refl w.heap.size w) (.cells #[.int .i64 i] 3)
  have HB := Aside0.mk hb
  have h2 := h.below hb
  have c1 := h2.c1
  have H := has_in h2.bits hi
  rw [hf] at H
  have HH := Aside0.mk H
  clear h L hf h2 hb H
  go_enter Tryd.func48, Tryd.ntmps48
  go_wp2_with fail
  refine HL.out.mono ?_
  rintro e w1 ⟨rfl, rfl⟩
  go_wp2_with fail
  refine HH.out.mono ?_
  rintro e w1 ⟨rfl, rfl⟩
  go_wp2
  go_ret2
  exact ⟨rfl, HB.out⟩
theorem take_yes (h : SlAt w p sb ob wb n f xs vs) {i : Nat} (hi : i < n) (hf : f i = true) : Calls Tryd.prog 48 #[.pointer (some ⟨p, 0, none⟩), .int .i64 i] w fun e w' => e = .returned (.tuple #[.int .i64 (xs.getD i 0), .int .i64 0]) ∧ ∃ vs', SlAt w' p sb ob wb n (upd f i false) (xs.set i 0) vs' ∧ Only (Mine sb wb) w w' := by
  have L := look_one h i
  rw [if_pos (by omega)] at L
  have HL := Aside0.mk L
  have hb := below_alloc (Below.refl w.heap.size w) (.cells #[.int .i64 i] 3)
  have HB := Aside0.mk hb
  have h2 := h.below hb
  have c0 := h2.c0
  have c1 := h2.c1
  have c2 := h2.cell hi
  have f2 := blk_frozen h2.hs i
  have H := has_in h2.bits hi
  rw [hf] at H
  have HH := Aside0.mk H
  have h3 := h2.store (i := i) 0
  have H3 := Aside0.mk h3
  have d1 := h3.c1
  have HA := Aside0.mk h2.apart
  have HS := Aside0.mk (set_any h3.bits hi false)
  clear h L hf h2 hb H h3
  generalize xs.getD i 0 = x0 at *
  go_enter Tryd.func48, Tryd.ntmps48
  go_wp2_with fail
  refine HL.out.mono ?_
  rintro e w1 ⟨rfl, rfl⟩
  go_wp2_with fail
  refine HH.out.mono ?_
  rintro e w1 ⟨rfl, rfl⟩
  go_wp2_with fail
  refine HS.out.mono ?_
  rintro e w2 ⟨rfl, vs', hb', ho⟩
  have HF := Aside0.mk (And.intro hb' ho)
  clear hb' ho
  go_wp2
  go_ret2
  obtain ⟨a1, a2, a3, a4, a5, a6⟩ := HA.out
  have ho := HF.out.2
  refine ⟨rfl, vs', ⟨ho.blk H3.out.hp (fun e => a3 e), ho.blk H3.out.hs (fun e => a5 e), H3.out.len, HF.out.1⟩, ?_⟩
  exact ((Only.of_below HB.out).then_ (Only.set (Mine sb wb) _ (p := ⟨sb, i, none⟩) (.inl rfl) _) (fun _ h => .inl h)).then_ ho (fun k hk => .inl (.inr hk))
end
end Go.Proofs.YtbjkncgpoengaaaDoor.G6
