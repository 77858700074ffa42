/- Walks of the arrays of pairs with gaps: taken. -/
import Derived.Test.YtbjkncgpoengaaaDoorJ6
import Derived.Test.YtbjkncgpoengaaaDoorS1
namespace Go.Proofs.YtbjkncgpoengaaaDoor.HP
open Go.RowKit Go.Shelf Go.Proofs.YtbjkncgpoengaaaDoorW.PrintWords Go.Proofs.YtbjkncgpoengaaaDoorW.PrintLast Go.Proofs.YtbjkncgpoengaaaDoorW.PrintMore G1 G0 Q1 G2 G3 G4 G5 G6 G7 G8 G9 G10 G11
open S1 (Blk)
set_option linter.unusedVariables false
set_option linter.unusedSimpArgs false
theorem size_two : (Tryd.prog.info? 30).map (·.size) = some 2 := by kernel_rfl
section
variable {pr : Int → Int × Int} {w : World} {p sb ob wb n : Nat} {f : Nat → Bool} {xs : List Int} {vs : List Nat}
theorem take_out (h : SlAt pr w p sb ob wb n f xs vs) {i : Int} (hi : ¬ (0 ≤ i ∧ i < n)) : Calls Tryd.prog 18 #[.pointer (some ⟨p, 0, none⟩), .int .i64 i] w fun e w' => e = .returned (.tuple #[.agg #[.int .i64 0, .int .i64 0], .int .i64 10]) ∧ Below w.heap.size w w' := by
  have HS0 := Aside0.mk (((S1.Sep.nil w).new_blk #[.int .i64 0, .int .i64 0] 30).new_blk #[.int .i64 0, .int .i64 0] 30)
  simp only [World.size_alloc] at HS0
  have L := look_one (h.below HS0.out.below) i
  simp only [World.size_alloc] at L
  rw [if_neg hi] at L
  have HL := Aside0.mk L
  have HS := Aside0.mk (HS0.out.step (below_alloc (Below.refl _ _) (.cells #[.int .i64 i] 3)))
  have h2 := h.below HS.out.below
  clear h L hi h2 HS0
  generalize hw1 : ((w.alloc (.cells #[.int .i64 0, .int .i64 0] 30)).alloc (.cells #[.int .i64 0, .int .i64 0] 30)).alloc (.cells #[.int .i64 i] 3) = w1 at *
  have c0 : (_ : Option Value) = some (.int .i64 0) := (blk_cell (HS.out.blk 0 rfl) 0).trans rfl
  have c1 : (_ : Option Value) = some (.int .i64 0) := (blk_cell (HS.out.blk 0 rfl) 1).trans rfl
  have d0 : (_ : Option Value) = some (.int .i64 0) := (blk_cell (HS.out.blk 1 rfl) 0).trans rfl
  have d1 : (_ : Option Value) = some (.int .i64 0) := (blk_cell (HS.out.blk 1 rfl) 1).trans rfl
  have f0 := blk_frozen (HS.out.blk 0 rfl) 0
  have f1 := blk_frozen (HS.out.blk 0 rfl) 1
  go_enter Tryd.func18, Tryd.ntmps18
  go_wp2_with fail
  refine HL.out.mono ?_
  rintro e w2 ⟨rfl, rfl⟩
  clear hw1
  go_wp2
  have HS2 := (HS.out.turn_blk 0 rfl 0 (.int .i64 0)).turn_blk 0 rfl 1 (.int .i64 0)
  refine bodyPost_ret (results_ct (p := 4) (u := 5) (ty := 30) rfl _ _ w.heap.size 30 #[.int .i64 0, .int .i64 0] (0, 0) _ rfl (HS2.blk 0 rfl) Tryd.underlying30 rfl size_two) rfl ?_
  exact ⟨rfl, HS2.below⟩
theorem take_none (h : SlAt pr w p sb ob wb n f xs vs) {i : Nat} (hi : i < n) (hf : f i = false) : Calls Tryd.prog 18 #[.pointer (some ⟨p, 0, none⟩), .int .i64 (i : Int)] w fun e w' => e = .returned (.tuple #[.agg #[.int .i64 0, .int .i64 0], .int .i64 14]) ∧ Below w.heap.size w w' := by
  have HS0 := Aside0.mk (((S1.Sep.nil w).new_blk #[.int .i64 0, .int .i64 0] 30).new_blk #[.int .i64 0, .int .i64 0] 30)
  simp only [World.size_alloc] at HS0
  have L := look_one (h.below HS0.out.below) (i : Int)
  simp only [World.size_alloc] at L
  rw [if_pos (by omega)] at L
  have HL := Aside0.mk L
  have HS := Aside0.mk (HS0.out.step (below_alloc (Below.refl _ _) (.cells #[.int .i64 (i : Int)] 3)))
  have h2 := h.below HS.out.below
  have k1 := h2.c1
  have H := has_in h2.bits hi
  rw [hf] at H
  have HH := Aside0.mk H
  clear h L hi h2 HS0 H hf
  generalize hw1 : ((w.alloc (.cells #[.int .i64 0, .int .i64 0] 30)).alloc (.cells #[.int .i64 0, .int .i64 0] 30)).alloc (.cells #[.int .i64 (i : Int)] 3) = w1 at *
  have c0 : (_ : Option Value) = some (.int .i64 0) := (blk_cell (HS.out.blk 0 rfl) 0).trans rfl
  have c1 : (_ : Option Value) = some (.int .i64 0) := (blk_cell (HS.out.blk 0 rfl) 1).trans rfl
  have d0 : (_ : Option Value) = some (.int .i64 0) := (blk_cell (HS.out.blk 1 rfl) 0).trans rfl
  have d1 : (_ : Option Value) = some (.int .i64 0) := (blk_cell (HS.out.blk 1 rfl) 1).trans rfl
  have f0 := blk_frozen (HS.out.blk 0 rfl) 0
  have f1 := blk_frozen (HS.out.blk 0 rfl) 1
  go_enter Tryd.func18, Tryd.ntmps18
  go_wp2_with fail
  refine HL.out.mono ?_
  rintro e w2 ⟨rfl, rfl⟩
  go_wp2_with fail
  refine HH.out.mono ?_
  rintro e w2 ⟨rfl, rfl⟩
  clear hw1
  go_wp2
  have HS2 := (HS.out.turn_blk 0 rfl 0 (.int .i64 0)).turn_blk 0 rfl 1 (.int .i64 0)
  refine bodyPost_ret (results_ct (p := 4) (u := 5) (ty := 30) rfl _ _ w.heap.size 30 #[.int .i64 0, .int .i64 0] (0, 0) _ rfl (HS2.blk 0 rfl) Tryd.underlying30 rfl size_two) rfl ?_
  exact ⟨rfl, HS2.below⟩
set_option maxRecDepth 100000 in
set_option maxHeartbeats 2000000 in
theorem take_yes (h : SlAt pr w p sb ob wb n f xs vs) {i : Nat} (hi : i < n) (hf : f i = true) {a b : Int} (hab : pr (xs.getD i 0) = (a, b)) : Calls Tryd.prog 18 #[.pointer (some ⟨p, 0, none⟩), .int .i64 (i : Int)] w fun e w' => e = .returned (.tuple #[.agg #[.int .i64 a, .int .i64 b], .int .i64 0]) ∧ ∃ vs', SlAt pr w' p sb ob wb n (upd f i false) (xs.set i 0) vs' ∧ Only (Mine sb wb) w w' := by
  have HS0 := Aside0.mk (((S1.Sep.nil w).new_blk #[.int .i64 0, .int .i64 0] 30).new_blk #[.int .i64 0, .int .i64 0] 30)
  simp only [World.size_alloc] at HS0
  have L := look_one (h.below HS0.out.below) (i : Int)
  simp only [World.size_alloc] at L
  rw [if_pos (by omega)] at L
  have HL := Aside0.mk L
  have HS := Aside0.mk (HS0.out.step (below_alloc (Below.refl _ _) (.cells #[.int .i64 (i : Int)] 3)))
  have h2 := h.below HS.out.below
  have k1 := h2.c1
  have k0 := h2.c0
  obtain ⟨e0, e1⟩ := h2.cell hi
  rw [hab] at e0 e1
  dsimp only at e0 e1
  have H := has_in h2.bits hi
  rw [hf] at H
  have HH := Aside0.mk H
  have HP := Aside0.mk (And.intro (blk_lt h.hp) (And.intro (blk_lt h.hs) (And.intro (blk_lt h.bits.ho) (blk_lt h.bits.hw))))
  clear h L HS0 H hf hab
  generalize hw1 : ((w.alloc (.cells #[.int .i64 0, .int .i64 0] 30)).alloc (.cells #[.int .i64 0, .int .i64 0] 30)).alloc (.cells #[.int .i64 (i : Int)] 3) = w1 at *
  have h3 := h2.below (below_alloc (Below.refl _ w1) (.cells #[.int .i64 a, .int .i64 b] 30))
  have HS2 := HS.out.new_blk #[.int .i64 a, .int .i64 b] 30
  have HX := Aside0.mk (And.intro h3 HS2)
  have hin : (i : Int) < (n : Int) := by omega
  clear h2 h3 HS2 HS
  go_enter Tryd.func18, Tryd.ntmps18
  go_wp2_with fail
  refine HL.out.mono ?_
  rintro e w2 ⟨rfl, rfl⟩
  go_wp2_with fail
  refine HH.out.mono ?_
  rintro e w2 ⟨rfl, rfl⟩
  clear hw1 k1 HL HH
  generalize hw2 : w1.alloc (.cells #[.int .i64 a, .int .i64 b] 30) = w2 at HX
  have k0' := HX.out.1.c0
  have d0 : (_ : Option Value) = some (.int .i64 0) := (blk_cell (HX.out.2.blk 1 rfl) 0).trans rfl
  have d1 : (_ : Option Value) = some (.int .i64 0) := (blk_cell (HX.out.2.blk 1 rfl) 1).trans rfl
  go_wp2
  go_still_tail 7, (by kernel_rfl)
  change wpList _ _ _ _ _ w2.drew
  clear k0' k0 d0 d1 e0 e1 hw2
  have h4 := HX.out.1.below (below_drew (Below.refl _ w2))
  have HS := Aside0.mk (HX.out.2.step (below_drew (Below.refl _ w2)))
  have hwd := HS.out.below
  obtain ⟨b3, hb3⟩ : ∃ b3, w1.heap.size = b3 := ⟨_, rfl⟩
  clear HX
  generalize w2.drew = w4 at *
  rw [hb3] at HS ⊢
  clear hb3
  have k0 := h4.c0
  have d0 : (_ : Option Value) = some (.int .i64 0) := (blk_cell (HS.out.blk 1 rfl) 0).trans rfl
  have d1 : (_ : Option Value) = some (.int .i64 0) := (blk_cell (HS.out.blk 1 rfl) 1).trans rfl
  obtain ⟨e0, e1⟩ := h4.cell hi
  have f0 := blk_frozen h4.hs (i * 2)
  have f1 := blk_frozen h4.hs (i * 2 + 1)
  have h5 := h4.store (i := i) 0
  rw [h4.z] at h5
  dsimp only at h5
  have n1 : w.heap.size ≠ sb := by have := HP.out.2.1; omega
  have l3 := (HS.out.lo _ (List.mem_of_getElem? (i := 2) rfl) b3 (by simp [Blk])).1
  have n3 : b3 ≠ sb := by have := HP.out.2.1; omega
  have q0 := blk_far (blk_far (HS.out.blk 0 rfl) n1 (p := ⟨sb, i * 2, none⟩) (.int .i64 0)) n1 (p := ⟨sb, i * 2 + 1, none⟩) (.int .i64 0)
  have q3 := blk_far (blk_far (HS.out.blk 2 rfl) n3 (p := ⟨sb, i * 2, none⟩) (.int .i64 0)) n3 (p := ⟨sb, i * 2 + 1, none⟩) (.int .i64 0)
  have HY := Aside0.mk (And.intro h5 (And.intro q0 q3))
  have l1 := h4.apart
  have HZ := Aside0.mk (And.intro hwd (And.intro l3 l1))
  clear h4 h5 HS hwd n1 n3 q0 q3 l3 l1
  go_wp2
  clear k0 d0 d1 e0 e1 f0 f1
  have HO := Aside0.mk (((Only.of_below (S := Mine sb wb) HZ.out.1).then_ (Only.set (Mine sb wb) w4 (p := ⟨sb, i * 2, none⟩) (.inl rfl) (.int .i64 0)) (fun _ h => .inl h)).then_ (Only.set (Mine sb wb) _ (p := ⟨sb, i * 2 + 1, none⟩) (.inl rfl) (.int .i64 0)) (fun _ h => .inl h))
  generalize hw5 : (w4.setCell ⟨sb, i * 2, none⟩ (.int .i64 0)).setCell ⟨sb, i * 2 + 1, none⟩ (.int .i64 0) = w5 at *
  have c1 := HY.out.1.c1
  have x0 : (_ : Option Value) = some (.int .i64 a) := (blk_cell HY.out.2.2 0).trans rfl
  have x1 : (_ : Option Value) = some (.int .i64 b) := (blk_cell HY.out.2.2 1).trans rfl
  have CS := Aside0.mk (fun (W : World) (hb : Below w5.heap.size w5 W) => set_any (HY.out.1.below hb).bits hi false)
  have hob : ob < w.heap.size := HP.out.2.2.1
  have hwb : wb < w.heap.size := HP.out.2.2.2
  have nb0 : w.heap.size ≠ wb := by omega
  have nb3 : b3 ≠ wb := by have := HZ.out.2.1; omega
  go_wp2
  go_region_with (go_at_call 55; refine (CS.out _ (below_drew (Below.refl _ _))).mono ?_; rintro e w6 ⟨rfl, vs', hb', ho⟩; have z0 := ho.blk (blk_below HY.out.2.1 (below_drew (Below.refl _ w5))) nb0; have z3 := ho.blk (blk_below HY.out.2.2 (below_drew (Below.refl _ w5))) nb3; have y0 : (_ : Option Value) = some (.int .i64 a) := (blk_cell z3 0).trans rfl; have y1 : (_ : Option Value) = some (.int .i64 b) := (blk_cell z3 1).trans rfl; have u0 : (_ : Option Value) = some (.int .i64 0) := (blk_cell z0 0).trans rfl; have u1 : (_ : Option Value) = some (.int .i64 0) := (blk_cell z0 1).trans rfl; have f0 := blk_frozen z0 0; have f1 := blk_frozen z0 1; have HF := Aside0.mk (And.intro hb' (And.intro ho z0)); clear hb' ho z0 z3)
  all_goals
    go_wp2
    have K := blk_set (blk_set HF.out.2.2 0 (.int .i64 a)) 1 (.int .i64 b)
    refine bodyPost_ret (results_ct (p := 4) (u := 5) (ty := 30) rfl _ _ w.heap.size 30 #[.int .i64 a, .int .i64 b] (0, 0) _ rfl K Tryd.underlying30 rfl size_two) rfl ?_
    obtain ⟨hb', ho, _⟩ := HF.out
    obtain ⟨hp1, hp2, hp3, hp4⟩ := HP.out
    obtain ⟨_, _, a1, a2, a3, a4, a5, a6⟩ := HZ.out
    have O1 := (Only.set (fun k => k = w.heap.size) w6 (p := ⟨w.heap.size, 0, none⟩) rfl (.int .i64 a)).trans (Only.set (fun k => k = w.heap.size) _ (p := ⟨w.heap.size, 1, none⟩) rfl (.int .i64 b))
    have O2 : Only (fun k => k = wb ∨ k = w.heap.size) w5 _ := ((Only.of_below (below_drew (Below.refl _ w5))).then_ ho (fun k hk => .inl (.inl hk))).then_ O1 (fun k hk => .inl (.inr hk))
    refine ⟨rfl, vs', ⟨HY.out.1.z, O2.blk HY.out.1.hp (by omega), O2.blk HY.out.1.hs (by omega), HY.out.1.len, hb'.only O1 (by omega) (by omega)⟩, ?_⟩
    exact (HO.out.then_ O2 (fun k hk => hk.elim (fun e => .inl (.inr e)) (fun e => .inr (by omega))))
end
end Go.Proofs.YtbjkncgpoengaaaDoor.HP
