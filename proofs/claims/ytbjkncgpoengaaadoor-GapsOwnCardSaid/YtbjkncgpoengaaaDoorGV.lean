/- What no array tells of its elements; one more of rows of a function's own; arrays that stand alike behind calls. -/
import Derived.Test.YtbjkncgpoengaaaDoorRF
import Derived.Test.YtbjkncgpoengaaaDoorCL
import Derived.Test.YtbjkncgpoengaaaDoorG12
namespace Go.Proofs.YtbjkncgpoengaaaDoor.GV
open Go.RowKit Go.Shelf Go.Proofs.YtbjkncgpoengaaaDoorW.PrintWords Go.Proofs.YtbjkncgpoengaaaDoorW.PrintLast Go.Proofs.YtbjkncgpoengaaaDoorW.PrintMore G1 G0 Q1 G2 G3 G4 G5 G6 G7 G8 G9 G10 G11 G12 S1 F4 F7 RF CL
set_option linter.unusedVariables false
set_option linter.unusedSimpArgs false
attribute [local go_sem] Oper.semAt_some
theorem sclone_nil (w : World) : Calls Tryd.prog 50 #[.pointer none] w fun e w' => e = .returned (.pointer none) ∧ w = w' := by
  go_enter Tryd.func50, Tryd.ntmps50
  go_wp2
  go_ret
  exact ⟨rfl, rfl⟩
theorem nil_stops (m : Nat) (hm : 1 ≤ m) (Bn : Nat) {w : World} (hB : w.heap[Bn]? = some (.cells #[.pointer none] 24 (0, 0))) :
    SeqStopsK Fence.wide m Tryd.prog 57 #[.pointer (some ⟨Bn, 0, none⟩)] (fun x : Nat × Int => #[.int .i64 (x.1 : Int), .int .i64 x.2]) (fun _ _ => True) (fun ys => ys = []) (fun _ => False) 0 w := fun l J Jx W hW hJ hJx hY h0 =>
  (all1_nil m hm l Bn J W (blk_below hB hW) h0).mono fun e w' ⟨hv, hj⟩ => ⟨hv, .inl ⟨[], rfl, hj⟩⟩
set_option maxRecDepth 100000 in
set_option maxHeartbeats 4000000 in
theorem items_nil_in (m : Nat) (hm : 3 ≤ m) (w : World) :
    CallsIn Fence.wide m Tryd.prog 21 #[.pointer none] w fun e W' => ∃ v, e = .returned v ∧ W'.ownsRow w.heap.size 3 1 v 0 (nums .i64 []) ∧ Below w.heap.size w W' := by
  have h1 : 1 ≤ m := by omega
  obtain ⟨i0, hi, hz0', hz1, hz2⟩ := info_parts G9.info3
  refine callsIn_of_wp_marks Tryd.func21 rfl trivial ?_ rfl
  simp only [Tryd.ntmps21, List.size_toArray, List.length_cons, List.length_nil, Nat.reduceAdd, Nat.reduceSub, Array.replicate_succ, Array.replicate_zero, List.push_toArray, List.append_toArray, List.nil_append, List.cons_append]
  gi_wp2_with (refine ⟨trivial, ?_⟩; gi_at_call 25; refine (callsIn_wide.2 (all_any _ _)).mono ?_; rintro e w' ⟨rfl, rfl⟩)
  have hB0 : Below w.heap.size w ((w.alloc (.cells #[.slice none 0 0] 41)).alloc (.cells #[.pointer none] 24)) := ((Below.refl _ w).alloc (Nat.le_refl _) _).alloc (by simp) _
  have bO := Boxed.new w 41 (.slice none 0 0)
  have bN := blk_new (w.alloc (.cells #[.slice none 0 0] 41)) (.cells #[.pointer none] 24)
  rw [World.size_alloc] at bN
  refine wpIn_rangeFunc_ownG rfl h1 (gf := 57) (lb := #[.pointer (some ⟨w.heap.size + 1, 0, none⟩)]) rfl trivial (enters_of Tryd.func57 (by kernel_rfl) rfl)
    (nil_stops (m - 1) (by omega) (w.heap.size + 1) bN) (fun _ _ => trivial) (fun W l o o' a b _ _ => trivial) (Below.refl _ _) (fun _ => rfl)
    (fun pre W => (∃ v, Boxed W w.heap.size 41 v ∧ W.ownsRow (w.heap.size + 2) 3 1 v pre.length (nums .i64 (vals pre)) ∧ True) ∧ Below w.heap.size w W ∧ w.heap.size + 2 ≤ W.heap.size)
    (fun _ _ _ => False)
    (OwnFrom.and (Own.from (holdsRow_own (w.heap.size + 2) w.heap.size 41 3 1 (fun pre : List (Nat × Int) => pre.length) (fun pre => nums .i64 (vals pre)) (fun pre v => True)) _) (OwnFrom.and (ownFrom_below (Nat.le_refl _) (by simp; omega)) (fun s W W' row h hg hr => Nat.le_trans h hg.size)))
    (fun _ _ _ _ _ hs _ _ => hs)
    ⟨⟨_, bO.alloc _, World.ownsRow_nil _ _ _ _, trivial⟩, hB0, by simp⟩
    (fun x => { tmps := #[.pointer none, undef, .slice none 0 0, .pointer (some ⟨w.heap.size, 0, none⟩), undef, .int .i64 x.2, .pointer none, .func (.func 57) #[] #[.pointer (some ⟨w.heap.size + 1, 0, none⟩)], .int .i64 (x.1 : Int), .int .i64 x.2, undef, undef, undef, undef, undef], defers := [] }) ?assign ?body ?done ?stop
  case assign =>
    intro l x W K hK
    gi_wp2
    exact hK
  case body =>
    rintro l pre x W _ hlt
    exact absurd hlt (Nat.not_lt_zero _)
  case done =>
    rintro D ys W hD rfl ⟨⟨v, hv, hrow, _⟩, hB, hsz⟩ hK
    have hc := hv.cell
    gi_wp2
    refine ⟨by simp, .inl ⟨_, _, rfl, run_takeDeferred hK, ?_⟩⟩
    exact ⟨_, results_tmp rfl _ _ _, v, rfl, own_low (ownsRow_putObj hrow _ hK rfl) (by omega), hB.trans (belowK_b (w := w) (Nat.le_refl _) W D _ _ (by simp at hD; omega) hK rfl rfl)⟩
  case stop =>
    rintro D c pre W _ _ h _
    exact h.elim
theorem items_nil (w : World) :
    Calls Tryd.prog 21 #[.pointer none] w fun e w' => ∃ A c, e = .returned (.slice A 0 c) ∧ Below w.heap.size w w' := by
  refine (callsIn_wide.1 (items_nil_in 3 (by omega) w)).mono ?_
  rintro e w' ⟨v, rfl, hrow, hb⟩
  obtain ⟨A, c, rfl, h1, h2⟩ := own_C hrow
  exact ⟨A, c, rfl, hb⟩
set_option maxRecDepth 100000 in
set_option maxHeartbeats 4000000 in
theorem places_nil_in (m : Nat) (hm : 3 ≤ m) (w : World) :
    CallsIn Fence.wide m Tryd.prog 23 #[.pointer none] w fun e W' => ∃ v, e = .returned v ∧ W'.ownsRow w.heap.size 3 1 v 0 (nums .i64 []) ∧ Below w.heap.size w W' := by
  have h1 : 1 ≤ m := by omega
  obtain ⟨i0, hi, hz0', hz1, hz2⟩ := info_parts G9.info3
  refine callsIn_of_wp_marks Tryd.func23 rfl trivial ?_ rfl
  simp only [Tryd.ntmps23, List.size_toArray, List.length_cons, List.length_nil, Nat.reduceAdd, Nat.reduceSub, Array.replicate_succ, Array.replicate_zero, List.push_toArray, List.append_toArray, List.nil_append, List.cons_append]
  gi_wp2_with (refine ⟨trivial, ?_⟩; gi_at_call 25; refine (callsIn_wide.2 (all_any _ _)).mono ?_; rintro e w' ⟨rfl, rfl⟩)
  have hB0 : Below w.heap.size w ((w.alloc (.cells #[.slice none 0 0] 41)).alloc (.cells #[.pointer none] 24)) := ((Below.refl _ w).alloc (Nat.le_refl _) _).alloc (by simp) _
  have bO := Boxed.new w 41 (.slice none 0 0)
  have bN := blk_new (w.alloc (.cells #[.slice none 0 0] 41)) (.cells #[.pointer none] 24)
  rw [World.size_alloc] at bN
  refine wpIn_rangeFunc_ownG rfl h1 (gf := 57) (lb := #[.pointer (some ⟨w.heap.size + 1, 0, none⟩)]) rfl trivial (enters_of Tryd.func57 (by kernel_rfl) rfl)
    (nil_stops (m - 1) (by omega) (w.heap.size + 1) bN) (fun _ _ => trivial) (fun W l o o' a b _ _ => trivial) (Below.refl _ _) (fun _ => rfl)
    (fun pre W => (∃ v, Boxed W w.heap.size 41 v ∧ W.ownsRow (w.heap.size + 2) 3 1 v pre.length (nums .i64 (keys pre)) ∧ True) ∧ Below w.heap.size w W ∧ w.heap.size + 2 ≤ W.heap.size)
    (fun _ _ _ => False)
    (OwnFrom.and (Own.from (holdsRow_own (w.heap.size + 2) w.heap.size 41 3 1 (fun pre : List (Nat × Int) => pre.length) (fun pre => nums .i64 (keys pre)) (fun pre v => True)) _) (OwnFrom.and (ownFrom_below (Nat.le_refl _) (by simp; omega)) (fun s W W' row h hg hr => Nat.le_trans h hg.size)))
    (fun _ _ _ _ _ hs _ _ => hs)
    ⟨⟨_, bO.alloc _, World.ownsRow_nil _ _ _ _, trivial⟩, hB0, by simp⟩
    (fun x => { tmps := #[.pointer none, undef, .slice none 0 0, .pointer (some ⟨w.heap.size, 0, none⟩), .int .i64 (x.1 : Int), .pointer none, .func (.func 57) #[] #[.pointer (some ⟨w.heap.size + 1, 0, none⟩)], .int .i64 (x.1 : Int), .int .i64 x.2, undef, undef, undef, undef, undef], defers := [] }) ?assign ?body ?done ?stop
  case assign =>
    intro l x W K hK
    gi_wp2
    exact hK
  case body =>
    rintro l pre x W _ hlt
    exact absurd hlt (Nat.not_lt_zero _)
  case done =>
    rintro D ys W hD rfl ⟨⟨v, hv, hrow, _⟩, hB, hsz⟩ hK
    have hc := hv.cell
    gi_wp2
    refine ⟨by simp, .inl ⟨_, _, rfl, run_takeDeferred hK, ?_⟩⟩
    exact ⟨_, results_tmp rfl _ _ _, v, rfl, own_low (ownsRow_putObj hrow _ hK rfl) (by omega), hB.trans (belowK_b (w := w) (Nat.le_refl _) W D _ _ (by simp at hD; omega) hK rfl rfl)⟩
  case stop =>
    rintro D c pre W _ _ h _
    exact h.elim
theorem places_nil (w : World) :
    Calls Tryd.prog 23 #[.pointer none] w fun e w' => ∃ A c, e = .returned (.slice A 0 c) ∧ Below w.heap.size w w' := by
  refine (callsIn_wide.1 (places_nil_in 3 (by omega) w)).mono ?_
  rintro e w' ⟨v, rfl, hrow, hb⟩
  obtain ⟨A, c, rfl, h1, h2⟩ := own_C hrow
  exact ⟨A, c, rfl, hb⟩
/-- An element of a row of one's own is turned. -/
theorem turn_own {w0 w : World} {l : List Ob} (h : S1.Sep w0 w l) (j : Nat) {b m c : Nat} {xs : List Int} (e : l[j]? = some (S1.Own (.slice (some ⟨b, 0, none⟩) m c) xs)) (i : Nat) (y : Int) : S1.Sep w0 (w.setCell ⟨b, i, none⟩ (.int .i64 y)) (l.set j (S1.Own (.slice (some ⟨b, 0, none⟩) m c) (xs.set i y))) := by
  have h0 := h.own j e
  have hm : m = xs.length := by
    obtain ⟨A', c', e', _⟩ := own_C h0
    have h := e'
    simp at h
    exact h.2.1
  subst hm
  refine h.turn j e (S := (· = b)) (Only.set (· = b) w (p := ⟨b, i, none⟩) rfl _) (fun k hk => by rw [hk]; simp [S1.Own, Value.ownBlock]) _ ?_ (fun k hk => .inl (by simpa [S1.Own, Value.ownBlock] using hk))
  have := own_put h0 (i : Int) y
  rw [Int.toNat_natCast] at this
  exact this
theorem get_set {xs : List Int} {i j : Nat} {v : Int} (hi : i < xs.length) : (xs.set i v).getD j 0 = if j = i then v else xs.getD j 0 := by
  simp only [List.getD_eq_getElem?_getD]
  by_cases e : j = i
  · subst e
    rw [if_pos rfl, List.getElem?_set_self hi]; rfl
  · rw [if_neg e, List.getElem?_set_ne (fun c => e c.symm)]
theorem inR_lt {n : Nat} {i : Int} (h : inR n i = true) : i.toNat < n ∧ 0 ≤ i := by
  have := of_decide_eq_true h
  omega
/-- Arrays that stand alike stand alike behind a call. -/
theorem act_same {n : Nat} {g g2 : Gap} (h : Same n g g2) (hl : n ≤ g.xs.length) (a : Cal) : Same n (actS n g a) (actS n g2 a) ∧ n ≤ (actS n g a).xs.length := by
  obtain ⟨d, i, x⟩ := a
  have hl2 := h.len
  unfold actS
  dsimp only
  split
  · have e : putR n g2 i = putR n g i := by unfold putR; rw [h.on]
    unfold putS
    rw [e]
    split
    · rename_i h0
      have hi : inR n i = true := by
        cases hb : inR n i with
        | true => rfl
        | false => unfold putR at h0; rw [hb] at h0; simp at h0
      have hi := (inR_lt hi).1
      refine ⟨⟨by show upd g2.on _ _ = _; rw [h.on], fun j hj => ?_, by show n ≤ (g2.xs.set _ _).length; rw [List.length_set]; exact hl2⟩, by show n ≤ (g.xs.set _ _).length; rw [List.length_set]; exact hl⟩
      show (g2.xs.set _ _).getD j 0 = (g.xs.set _ _).getD j 0
      rw [get_set (by omega), get_set (by omega), h.xs j hj]
    · exact ⟨h, hl⟩
  · split
    · have e : (takeR n g2 i).2 = (takeR n g i).2 := by
        unfold takeR
        rw [h.on]
        split
        · split <;> rfl
        · rfl
      unfold takeS
      rw [e]
      split
      · rename_i h0
        have hi : inR n i = true := by
          cases hb : inR n i with
          | true => rfl
          | false => unfold takeR at h0; rw [hb] at h0; simp at h0
        have hi := (inR_lt hi).1
        refine ⟨⟨by show upd g2.on _ _ = _; rw [h.on], fun j hj => ?_, by show n ≤ (g2.xs.set _ _).length; rw [List.length_set]; exact hl2⟩, by show n ≤ (g.xs.set _ _).length; rw [List.length_set]; exact hl⟩
        show (g2.xs.set _ _).getD j 0 = (g.xs.set _ _).getD j 0
        rw [get_set (by omega), get_set (by omega), h.xs j hj]
      · exact ⟨h, hl⟩
    · have e : moveR n g2 i x = moveR n g i x := by unfold moveR; rw [h.on]
      unfold moveS
      rw [e]
      split
      · rename_i h0
        have hix : inR n i = true ∧ inR n x = true := by
          cases hb : inR n i && inR n x with
          | true => exact Bool.and_eq_true_iff.1 hb
          | false => unfold moveR at h0; rw [hb] at h0; simp at h0
        have hi := (inR_lt hix.1).1
        have hx := (inR_lt hix.2).1
        refine ⟨⟨by show upd (upd g2.on _ _) _ _ = _; rw [h.on], fun j hj => ?_, by show n ≤ ((g2.xs.set _ _).set _ _).length; rw [List.length_set, List.length_set]; exact hl2⟩, by show n ≤ ((g.xs.set _ _).set _ _).length; rw [List.length_set, List.length_set]; exact hl⟩
        show ((g2.xs.set _ _).set _ _).getD j 0 = ((g.xs.set _ _).set _ _).getD j 0
        have key : ∀ (ys : List Int) (u v : Int), n ≤ ys.length → ((ys.set i.toNat u).set x.toNat v).getD j 0 = if j = x.toNat then v else if j = i.toNat then u else ys.getD j 0 := fun ys u v hy => by
          rw [get_set (by rw [List.length_set]; omega), get_set (by omega)]
        rw [key _ _ _ hl2, key _ _ _ hl, h.xs j hj, h.xs _ hi]
      · exact ⟨h, hl⟩
end Go.Proofs.YtbjkncgpoengaaaDoor.GV
