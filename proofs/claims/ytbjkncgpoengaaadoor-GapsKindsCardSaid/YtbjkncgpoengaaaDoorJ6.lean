/- Walks of the arrays of pairs with gaps: put. -/
import Derived.Test.YtbjkncgpoengaaaDoorJ5
import Derived.StillTailTactics
import Derived.BigQuiet
namespace Go.Proofs.YtbjkncgpoengaaaDoor.HP
open Go.RowKit Go.Shelf Go.Proofs.YtbjkncgpoengaaaDoorW.PrintWords Go.Proofs.YtbjkncgpoengaaaDoorW.PrintLast Go.Proofs.YtbjkncgpoengaaaDoorW.PrintMore G1 G0 Q1 G2 G3 G4 G5 G6 G7 G8 G9 G10 G11
set_option linter.unusedVariables false
set_option linter.unusedSimpArgs false
section
variable {pr : Int → Int × Int} {w : World} {p sb ob wb n : Nat} {f : Nat → Bool} {xs : List Int} {vs : List Nat}
theorem look_one (h : SlAt pr w p sb ob wb n f xs vs) (i : Int) : Calls Tryd.prog 53 #[.pointer (some ⟨p, 0, none⟩), .slice (some ⟨w.heap.size, 0, none⟩) 1 1] (w.alloc (.cells #[.int .i64 i] 3)) fun e w' => e = .returned (.int .i64 (if 0 ≤ i ∧ i < n then 0 else 10)) ∧ w.alloc (.cells #[.int .i64 i] 3) = w' := by
  have hb := below_alloc (Below.refl w.heap.size w) (.cells #[.int .i64 i] 3)
  have H := look_any (h.below hb) (c := 1) (lit_reads w [i] (by simp)) (by simp)
  have e : lookE n [i] = if 0 ≤ i ∧ i < n then 0 else 10 := by simp [lookE]
  rw [e] at H
  exact H
theorem look_two (h : SlAt pr w p sb ob wb n f xs vs) (i j : Int) : Calls Tryd.prog 53 #[.pointer (some ⟨p, 0, none⟩), .slice (some ⟨w.heap.size, 0, none⟩) 2 2] (w.alloc (.cells #[.int .i64 i, .int .i64 j] 3)) fun e w' => e = .returned (.int .i64 (if (0 ≤ i ∧ i < n) ∧ 0 ≤ j ∧ j < n then 0 else 10)) ∧ w.alloc (.cells #[.int .i64 i, .int .i64 j] 3) = w' := by
  have hb := below_alloc (Below.refl w.heap.size w) (.cells #[.int .i64 i, .int .i64 j] 3)
  have H := look_any (h.below hb) (c := 2) (lit_reads w [i, j] (by simp)) (by simp)
  have e : lookE n [i, j] = if (0 ≤ i ∧ i < n) ∧ 0 ≤ j ∧ j < n then 0 else 10 := by simp [lookE]
  rw [e] at H
  exact H
theorem put_out (h : SlAt pr w p sb ob wb n f xs vs) {i : Int} (hi : ¬ (0 ≤ i ∧ i < n)) (a b : Int) : Calls Tryd.prog 17 #[.pointer (some ⟨p, 0, none⟩), .int .i64 i, .agg #[.int .i64 a, .int .i64 b]] w fun e w' => e = .returned (.int .i64 10) ∧ Below w.heap.size w w' := by
  have hb1 := below_alloc (Below.refl w.heap.size w) (.cells #[.int .i64 a, .int .i64 b] 30)
  have L := look_one (h.below hb1) i
  simp only [World.size_alloc] at L
  rw [if_neg hi] at L
  have HL := Aside0.mk L
  have hb := below_alloc hb1 (.cells #[.int .i64 i] 3)
  have HB := Aside0.mk hb
  clear h L hi hb hb1
  go_enter Tryd.func17, Tryd.ntmps17
  go_wp2_with fail
  refine HL.out.mono ?_
  rintro e w1 ⟨rfl, rfl⟩
  go_wp2
  go_ret
  exact ⟨rfl, HB.out⟩
theorem put_there (h : SlAt pr w p sb ob wb n f xs vs) {k : Nat} {i : Int} (hk : (k : Int) = i) (hi : k < n) (hf : f k = true) (a b : Int) : Calls Tryd.prog 17 #[.pointer (some ⟨p, 0, none⟩), .int .i64 i, .agg #[.int .i64 a, .int .i64 b]] w fun e w' => e = .returned (.int .i64 15) ∧ Below w.heap.size w w' := by
  have hb1 := below_alloc (Below.refl w.heap.size w) (.cells #[.int .i64 a, .int .i64 b] 30)
  have L := look_one (h.below hb1) i
  simp only [World.size_alloc] at L
  rw [if_pos (by omega)] at L
  have HL := Aside0.mk L
  have hb := below_alloc hb1 (.cells #[.int .i64 i] 3)
  have HB := Aside0.mk hb
  have h2 := h.below hb
  have c1 := h2.c1
  have H := has_in h2.bits hi
  rw [hf, hk] at H
  have HH := Aside0.mk H
  clear h L hf h2 hb H hb1 hk hi
  go_enter Tryd.func17, Tryd.ntmps17
  go_wp2_with fail
  refine HL.out.mono ?_
  rintro e w1 ⟨rfl, rfl⟩
  go_wp2_with fail
  refine HH.out.mono ?_
  rintro e w1 ⟨rfl, rfl⟩
  go_wp2
  go_ret
  exact ⟨rfl, HB.out⟩
set_option maxRecDepth 100000 in
theorem put_yes (h : SlAt pr w p sb ob wb n f xs vs) {i : Nat} (hi : i < n) (hf : f i = false) {x a b : Int} (hab : pr x = (a, b)) : Calls Tryd.prog 17 #[.pointer (some ⟨p, 0, none⟩), .int .i64 (i : Int), .agg #[.int .i64 a, .int .i64 b]] w fun e w' => e = .returned (.int .i64 0) ∧ ∃ vs', SlAt pr w' p sb ob wb n (upd f i true) (xs.set i x) vs' ∧ Only (Mine sb wb) w w' := by
  have hb1 := below_alloc (Below.refl w.heap.size w) (.cells #[.int .i64 a, .int .i64 b] 30)
  have L := look_one (h.below hb1) (i : Int)
  simp only [World.size_alloc] at L
  rw [if_pos (by omega)] at L
  have HL := Aside0.mk L
  have hb := below_alloc hb1 (.cells #[.int .i64 (i : Int)] 3)
  have h2 := h.below hb
  have c1 := h2.c1
  have H := has_in h2.bits hi
  rw [hf] at H
  have HH := Aside0.mk H
  have k1 := blk_alloc (blk_new w (.cells #[.int .i64 a, .int .i64 b] 30)) (.cells #[.int .i64 (i : Int)] 3)
  have HAB := Aside0.mk hab
  clear h L hf hb1 H hab
  generalize hw1 : (w.alloc (.cells #[.int .i64 a, .int .i64 b] 30)).alloc (.cells #[.int .i64 (i : Int)] 3) = w1 at *
  have HK := Aside0.mk (And.intro h2 (And.intro hb k1))
  clear h2 hb k1
  have hin : (i : Int) < (n : Int) := by omega
  go_enter Tryd.func17, Tryd.ntmps17
  go_wp2_with fail
  refine HL.out.mono ?_
  rintro e w2 ⟨rfl, rfl⟩
  go_wp2_with fail
  refine HH.out.mono ?_
  rintro e w2 ⟨rfl, rfl⟩
  clear HL HH hw1 c1
  have c0 := HK.out.1.c0
  have d0 : (_ : Option Value) = some (.int .i64 a) := (blk_cell HK.out.2.2 0).trans rfl
  have d1 : (_ : Option Value) = some (.int .i64 b) := (blk_cell HK.out.2.2 1).trans rfl
  go_wp2
  go_still_tail 7, (by kernel_rfl)
  change wpList _ _ _ _ _ w1.drew
  clear c0 d0 d1
  have h4 := HK.out.1.below (below_drew (Below.refl _ w1))
  have hbd := below_step HK.out.2.1 (below_drew (Below.refl _ w1))
  have k4 := blk_below HK.out.2.2 (below_drew (Below.refl _ w1))
  clear HK
  generalize w1.drew = w4 at *
  have HB := Aside0.mk (And.intro h4 hbd)
  have c0 := h4.c0
  have c1 := h4.c1
  have d0 : (_ : Option Value) = some (.int .i64 a) := (blk_cell k4 0).trans rfl
  have d1 : (_ : Option Value) = some (.int .i64 b) := (blk_cell k4 1).trans rfl
  obtain ⟨e0, e1⟩ := h4.cell hi
  have f0 := blk_frozen h4.hs (i * 2)
  have f1 := blk_frozen h4.hs (i * 2 + 1)
  have h5 := h4.store (i := i) x
  rw [HAB.out] at h5
  dsimp only at h5
  have H5 := Aside0.mk h5
  have g1 := h5.c1
  have HA := Aside0.mk h4.apart
  have HS := Aside0.mk (set_any h5.bits hi true)
  clear h4 hbd k4 h5
  generalize (pr (xs.getD i 0)).1 = z0 at e0
  generalize (pr (xs.getD i 0)).2 = z1 at e1
  go_wp2_with fail
  refine HS.out.mono ?_
  rintro e w6 ⟨rfl, vs', hb', ho⟩
  have HF := Aside0.mk (And.intro hb' ho)
  clear hb' ho
  go_wp2
  go_ret
  obtain ⟨a1, a2, a3, a4, a5, a6⟩ := HA.out
  have ho := HF.out.2
  refine ⟨rfl, vs', ⟨H5.out.z, ho.blk H5.out.hp (fun e => a3 e), ho.blk H5.out.hs (fun e => a5 e), H5.out.len, HF.out.1⟩, ?_⟩
  exact ((((Only.of_below HB.out.2).then_ (Only.set (Mine sb wb) _ (p := ⟨sb, i * 2, none⟩) (.inl rfl) _) (fun _ h => .inl h)).then_ (Only.set (Mine sb wb) _ (p := ⟨sb, i * 2 + 1, none⟩) (.inl rfl) _) (fun _ h => .inl h))).then_ ho (fun k hk => .inl (.inr hk))
end
end Go.Proofs.YtbjkncgpoengaaaDoor.HP
