/- Walks of the arrays with gaps: their elements, and their places, in rows of their own. -/
import Derived.Test.YtbjkncgpoengaaaDoorG8
namespace Go.Proofs.YtbjkncgpoengaaaDoor.G9
open Go.RowKit Go.Shelf Go.Proofs.YtbjkncgpoengaaaDoorW.PrintWords Go.Proofs.YtbjkncgpoengaaaDoorW.PrintLast Go.Proofs.YtbjkncgpoengaaaDoorW.PrintMore G1 G0 Q1 G2 G3 G4 G5 G6 G7 G8
set_option linter.unusedVariables false
set_option linter.unusedSimpArgs false
attribute [local go_sem] Oper.semAt_some

theorem all_any (p : Option Addr) (w : World) : Calls Tryd.prog 25 #[.pointer p] w fun e w' => e = .returned (.func (.func 57) #[] #[.pointer (some ⟨w.heap.size, 0, none⟩)]) ∧ w.alloc (.cells #[.pointer p] 24) = w' := by
  go_enter Tryd.func25, Tryd.ntmps25
  go_wp2
  go_ret
  exact ⟨rfl, rfl⟩
theorem grown_drewN (W : World) (d : Nat) : W.grownBy (W.drewN d) none := ⟨rfl, rfl, rfl, Nat.le_refl _, fun _ _ _ => rfl⟩
theorem all_stops (m : Nat) (hm : 1 ≤ m) (Bn : Nat) {p sb ob wb n : Nat} {f : Nat → Bool} {xs : List Int} {vs : List Nat} {w : World} (hB : w.heap[Bn]? = some (.cells #[.pointer (some ⟨p, 0, none⟩)] 24 (0, 0))) (hS : SlAt w p sb ob wb n f xs vs) (hT : Tb w) :
    SeqStopsK Fence.wide m Tryd.prog 57 #[.pointer (some ⟨Bn, 0, none⟩)] (fun x : Nat × Int => #[.int .i64 (x.1 : Int), .int .i64 x.2]) (Stay [Bn, p, sb, ob, wb, 0]) (fun ys => ys = ons f xs n) (fun pre => ∃ k, k ≤ n ∧ pre = ons f xs k) n w := fun l J Jx W hW hJ hJx hY h0 =>
  all1_in m hm l Bn [Bn, p, sb, ob, wb, 0] (by simp) J Jx (fun pre W W' h ⟨d, hd⟩ => by rw [hd]; exact hJ _ _ _ none h (grown_drewN W d) (fun r e => by cases e)) (fun pre x W h hl => hY pre x W h (Nat.lt_of_lt_of_le hl (cntF_le f n))) W (blk_below hB hW) (hS.below hW) (Kd.C_below hT hW) h0
/-- The same, and no more are told than there are. -/
theorem all_stopsN (m : Nat) (hm : 1 ≤ m) (Bn : Nat) {p sb ob wb n : Nat} {f : Nat → Bool} {xs : List Int} {vs : List Nat} {w : World} (hB : w.heap[Bn]? = some (.cells #[.pointer (some ⟨p, 0, none⟩)] 24 (0, 0))) (hS : SlAt w p sb ob wb n f xs vs) (hT : Tb w) :
    SeqStopsK Fence.wide m Tryd.prog 57 #[.pointer (some ⟨Bn, 0, none⟩)] (fun x : Nat × Int => #[.int .i64 (x.1 : Int), .int .i64 x.2]) (Stay [Bn, p, sb, ob, wb, 0]) (fun ys => ys = ons f xs n) (fun pre => ∃ k, k ≤ n ∧ pre = ons f xs k) (cntF f n) w := fun l J Jx W hW hJ hJx hY h0 =>
  all1_in m hm l Bn [Bn, p, sb, ob, wb, 0] (by simp) J Jx (fun pre W W' h ⟨d, hd⟩ => by rw [hd]; exact hJ _ _ _ none h (grown_drewN W d) (fun r e => by cases e)) hY W (blk_below hB hW) (hS.below hW) (Kd.C_below hT hW) h0
theorem stay_putObj {K : List Nat} {w : World} (hK : ∀ k ∈ K, k < w.heap.size) (W : World) (l : Nat) (o o' : Obj) (hl : w.heap.size ≤ l) (hg : W.heap[l]? = some o) : Stay K W (W.putObj l o') := fun k hk =>
  (grownBy_putObj' W l o').block k (Nat.lt_of_lt_of_le (hK k hk) (Nat.le_of_lt (Nat.lt_of_le_of_lt hl (blk_lt hg)))) (fun e => by have := Option.some.inj e; have := hK k hk; omega)
theorem info3 : (Tryd.prog.info? 3).map (fun i => (i.zero, i.size, i.bytes)) = some (some (.int .i64 0), 1, 8) := by kernel_rfl
theorem own_low {w : World} {base base' : Nat} {e : TypeId} {size n : Nat} {v : Value} {xs : List Value} (h : w.ownsRow base e size v n xs) (hb : base' ≤ base) : w.ownsRow base' e size v n xs := by
  refine ⟨h.1, ?_⟩
  rcases h.2 with h2 | ⟨g, cap, cur, he, hg, rest⟩
  · exact .inl h2
  · exact .inr ⟨g, cap, cur, he, Nat.le_trans hb hg, rest⟩
/-- A row of the call's own, read. -/
theorem own_C {w : World} {base e n : Nat} {v : Value} {xs : List Int} (h : w.ownsRow base e 1 v n (nums .i64 xs)) : ∃ A c, v = .slice A n c ∧ n ≤ c ∧ Kd.C (Kd.int .i64) w A n xs := by
  obtain ⟨A, c, rfl, hr⟩ := own_reads h
  refine ⟨A, c, rfl, ?_, Kd.C_of_reads (d := (0 : Int)) (h1 := fun _ => rfl) hr⟩
  rcases h.2 with ⟨h1, h2⟩ | ⟨g, cap, cur, h1, _, _, h2, _⟩
  · simp at h1; omega
  · simp at h1; omega
/-- Rows of the elements, and of the places. -/
def vals (l : List (Nat × Int)) : List Int := l.map (·.2)
def keys (l : List (Nat × Int)) : List Int := l.map fun x => (x.1 : Int)
set_option maxRecDepth 100000 in
set_option maxHeartbeats 4000000 in
theorem items_in (m : Nat) (hm : 3 ≤ m) {p sb ob wb n : Nat} {f : Nat → Bool} {xs : List Int} {vs : List Nat} (w : World) (hS : SlAt w p sb ob wb n f xs vs) (hT : Tb w) :
    CallsIn Fence.wide m Tryd.prog 21 #[.pointer (some ⟨p, 0, none⟩)] w fun e W' => ∃ v, e = .returned v ∧ W'.ownsRow w.heap.size 3 1 v (ons f xs n).length (nums .i64 (vals (ons f xs n))) ∧ Below w.heap.size w W' := by
  have h1 : 1 ≤ m := by omega
  have hn := hS.bits.high
  have hz0 : 0 < w.heap.size := by
    obtain ⟨ad, e, hx⟩ := Kd.at_int hT 0 (by omega) (by omega)
    cases e
    exact World.block_lt_of_cell? w _ hx
  have q1 := blk_lt hS.hp
  have q2 := blk_lt hS.hs
  have q3 := blk_lt hS.bits.ho
  have q4 := blk_lt hS.bits.hw
  have hS0 := Aside0.mk hS
  have hT0 := Aside0.mk hT
  clear hS hT
  obtain ⟨i0, hi, hz0', hz1, hz2⟩ := info_parts info3
  refine callsIn_of_wp_marks Tryd.func21 rfl trivial ?_ rfl
  simp only [Tryd.ntmps21, List.size_toArray, List.length_cons, List.length_nil, Nat.reduceAdd, Nat.reduceSub, Array.replicate_succ, Array.replicate_zero, List.push_toArray, List.append_toArray, List.nil_append, List.cons_append]
  gi_wp2_with (refine ⟨trivial, ?_⟩; gi_at_call 25; refine (callsIn_wide.2 (all_any _ _)).mono ?_; rintro e w' ⟨rfl, rfl⟩)
  have hB0 : Below w.heap.size w ((w.alloc (.cells #[.slice none 0 0] 41)).alloc (.cells #[.pointer (some ⟨p, 0, none⟩)] 24)) := ((Below.refl _ w).alloc (Nat.le_refl _) _).alloc (by simp) _
  have bO := Boxed.new w 41 (.slice none 0 0)
  have bN := blk_new (w.alloc (.cells #[.slice none 0 0] 41)) (.cells #[.pointer (some ⟨p, 0, none⟩)] 24)
  rw [World.size_alloc] at bN
  have hS1 := hS0.out.below hB0
  have hT1 := Kd.C_below hT0.out hB0
  refine wpIn_rangeFunc_ownG rfl h1 (gf := 57) (lb := #[.pointer (some ⟨w.heap.size + 1, 0, none⟩)]) rfl trivial (enters_of Tryd.func57 (by kernel_rfl) rfl)
    (all_stops (m - 1) (by omega) (w.heap.size + 1) bN hS1 hT1) Stay.trans (fun W l o o' a b _ _ => stay_putObj (by simp; omega) W l o o' a b) (Below.refl _ _) (fun _ => rfl)
    (fun pre W => (∃ v, Boxed W w.heap.size 41 v ∧ W.ownsRow (w.heap.size + 2) 3 1 v pre.length (nums .i64 (vals pre)) ∧ True) ∧ Below w.heap.size w W ∧ w.heap.size + 2 ≤ W.heap.size)
    (fun _ _ _ => False)
    (OwnFrom.and (Own.from (holdsRow_own (w.heap.size + 2) w.heap.size 41 3 1 (fun pre : List (Nat × Int) => pre.length) (fun pre => nums .i64 (vals pre)) (fun pre v => True)) _) (OwnFrom.and (ownFrom_below (Nat.le_refl _) (by simp; omega)) (fun s W W' row h hg hr => Nat.le_trans h hg.size)))
    (fun _ _ _ _ _ hs _ _ => hs)
    ⟨⟨_, bO.alloc _, World.ownsRow_nil _ _ _ _, trivial⟩, hB0, by simp⟩
    (fun x => { tmps := #[.pointer (some ⟨p, 0, none⟩), undef, .slice none 0 0, .pointer (some ⟨w.heap.size, 0, none⟩), undef, .int .i64 x.2, .pointer (some ⟨p, 0, none⟩), .func (.func 57) #[] #[.pointer (some ⟨w.heap.size + 1, 0, none⟩)], .int .i64 (x.1 : Int), .int .i64 x.2, undef, undef, undef, undef, undef], defers := [] }) ?assign ?body ?done ?stop
  case assign =>
    intro l x W K hK
    gi_wp2
    exact hK
  case body =>
    rintro l pre x W ⟨⟨v, hv, hrow, _⟩, hB, hsz⟩ hlt
    have hc := hv.cell
    have hlow := own_low hrow (show w.heap.size ≤ w.heap.size + 2 by omega)
    have EV : Aside0 (nums .i64 (vals (pre ++ [x])) = nums .i64 (vals pre) ++ [.int .i64 x.2]) := ⟨by simp [vals, nums]⟩
    gi_wp2_with (gi_at_builtin; refine wpListIn_append_own _ rfl _ _ 41 rfl (w.heap.size + 2) 3 i0 (.int .i64 0) 1 8 Tryd.underlying41 hi hz0' hz1 hz2 rfl (by decide) _ _ _ rfl (hrow.alloc _) ⟨W.heap.size, 0, none⟩ 1 1 [.int .i64 x.2] rfl rfl (cell_one_new _ _ _) (by simp [Value.oneCell']) (by unfold maxLen; omega) (by omega) (by simp; omega) ?_; intro v' w1 hown' hgrow _; obtain ⟨g', cap', rfl⟩ := ownsRow_succ hown'; obtain ⟨hv1, hv2, hr2, hk2, hb2⟩ := hv.appended (by decide) hlow hB.size (Nat.le_refl _) (own_low hown' (show w.heap.size ≤ w.heap.size + 2 by omega)) hgrow; have hc1 := hv1.cell; have hf1 := hv1.frozen)
    have hst : Stay [w.heap.size + 1, p, sb, ob, wb, 0] W (w1.setCell ⟨w.heap.size, 0, none⟩ (.slice (some ⟨g', 0, none⟩) (pre.length + 1) cap')) := by
      intro k hk
      have hk2 : k < w.heap.size + 2 ∧ k ≠ w.heap.size := by
        simp only [List.mem_cons, List.not_mem_nil, or_false] at hk
        omega
      rw [Below.heap_setCell _ _ _ _ hk2.2, hgrow.block k (by simp; omega) (fun e => by have := own_base hrow k e.symm; omega)]
      exact Below.heap_alloc W _ k (by omega)
    refine ⟨hk2.from _, hst, ⟨_, hv2, ?_, trivial⟩, hB.trans hb2, Nat.le_trans hsz hb2.size⟩
    rw [List.length_append, EV.out]
    exact hown'.kept (grownBy_setCell' w1 _ _) (.inr (hv1.not_row (by decide) hown').symm)
  case done =>
    rintro D ys W hD rfl ⟨⟨v, hv, hrow, _⟩, hB, hsz⟩ hK
    have hc := hv.cell
    gi_wp2
    refine ⟨by simp, .inl ⟨_, _, rfl, run_takeDeferred hK, ?_⟩⟩
    exact ⟨_, results_tmp rfl _ _ _, v, rfl, own_low (ownsRow_putObj hrow _ hK rfl) (by omega), hB.trans (belowK_b (w := w) (Nat.le_refl _) W D _ _ (by simp at hD; omega) hK rfl rfl)⟩
  case stop =>
    rintro D c pre W _ _ h _
    exact h.elim
theorem items_any {p sb ob wb n : Nat} {f : Nat → Bool} {xs : List Int} {vs : List Nat} {w : World} (hS : SlAt w p sb ob wb n f xs vs) (hT : Tb w) :
    Calls Tryd.prog 21 #[.pointer (some ⟨p, 0, none⟩)] w fun e w' => ∃ A c, e = .returned (.slice A (cntF f n) c) ∧ cntF f n ≤ c ∧ Kd.C (Kd.int .i64) w' A (cntF f n) (vals (ons f xs n)) ∧ w'.ownsRow w.heap.size 3 1 (.slice A (cntF f n) c) (cntF f n) (nums .i64 (vals (ons f xs n))) ∧ Below w.heap.size w w' := by
  refine (callsIn_wide.1 (items_in 3 (by omega) w hS hT)).mono ?_
  rintro e w' ⟨v, rfl, hrow, hb⟩
  rw [ons_length] at hrow
  obtain ⟨A, c, rfl, h1, h2⟩ := own_C hrow
  exact ⟨A, c, rfl, h1, h2, hrow, hb⟩
set_option maxRecDepth 100000 in
set_option maxHeartbeats 4000000 in
theorem places_in (m : Nat) (hm : 3 ≤ m) {p sb ob wb n : Nat} {f : Nat → Bool} {xs : List Int} {vs : List Nat} (w : World) (hS : SlAt w p sb ob wb n f xs vs) (hT : Tb w) :
    CallsIn Fence.wide m Tryd.prog 23 #[.pointer (some ⟨p, 0, none⟩)] w fun e W' => ∃ v, e = .returned v ∧ W'.ownsRow w.heap.size 3 1 v (ons f xs n).length (nums .i64 (keys (ons f xs n))) ∧ Below w.heap.size w W' := by
  have h1 : 1 ≤ m := by omega
  have hn := hS.bits.high
  have hz0 : 0 < w.heap.size := by
    obtain ⟨ad, e, hx⟩ := Kd.at_int hT 0 (by omega) (by omega)
    cases e
    exact World.block_lt_of_cell? w _ hx
  have q1 := blk_lt hS.hp
  have q2 := blk_lt hS.hs
  have q3 := blk_lt hS.bits.ho
  have q4 := blk_lt hS.bits.hw
  have hS0 := Aside0.mk hS
  have hT0 := Aside0.mk hT
  clear hS hT
  obtain ⟨i0, hi, hz0', hz1, hz2⟩ := info_parts info3
  refine callsIn_of_wp_marks Tryd.func23 rfl trivial ?_ rfl
  simp only [Tryd.ntmps23, List.size_toArray, List.length_cons, List.length_nil, Nat.reduceAdd, Nat.reduceSub, Array.replicate_succ, Array.replicate_zero, List.push_toArray, List.append_toArray, List.nil_append, List.cons_append]
  gi_wp2_with (refine ⟨trivial, ?_⟩; gi_at_call 25; refine (callsIn_wide.2 (all_any _ _)).mono ?_; rintro e w' ⟨rfl, rfl⟩)
  have hB0 : Below w.heap.size w ((w.alloc (.cells #[.slice none 0 0] 41)).alloc (.cells #[.pointer (some ⟨p, 0, none⟩)] 24)) := ((Below.refl _ w).alloc (Nat.le_refl _) _).alloc (by simp) _
  have bO := Boxed.new w 41 (.slice none 0 0)
  have bN := blk_new (w.alloc (.cells #[.slice none 0 0] 41)) (.cells #[.pointer (some ⟨p, 0, none⟩)] 24)
  rw [World.size_alloc] at bN
  have hS1 := hS0.out.below hB0
  have hT1 := Kd.C_below hT0.out hB0
  refine wpIn_rangeFunc_ownG rfl h1 (gf := 57) (lb := #[.pointer (some ⟨w.heap.size + 1, 0, none⟩)]) rfl trivial (enters_of Tryd.func57 (by kernel_rfl) rfl)
    (all_stops (m - 1) (by omega) (w.heap.size + 1) bN hS1 hT1) Stay.trans (fun W l o o' a b _ _ => stay_putObj (by simp; omega) W l o o' a b) (Below.refl _ _) (fun _ => rfl)
    (fun pre W => (∃ v, Boxed W w.heap.size 41 v ∧ W.ownsRow (w.heap.size + 2) 3 1 v pre.length (nums .i64 (keys pre)) ∧ True) ∧ Below w.heap.size w W ∧ w.heap.size + 2 ≤ W.heap.size)
    (fun _ _ _ => False)
    (OwnFrom.and (Own.from (holdsRow_own (w.heap.size + 2) w.heap.size 41 3 1 (fun pre : List (Nat × Int) => pre.length) (fun pre => nums .i64 (keys pre)) (fun pre v => True)) _) (OwnFrom.and (ownFrom_below (Nat.le_refl _) (by simp; omega)) (fun s W W' row h hg hr => Nat.le_trans h hg.size)))
    (fun _ _ _ _ _ hs _ _ => hs)
    ⟨⟨_, bO.alloc _, World.ownsRow_nil _ _ _ _, trivial⟩, hB0, by simp⟩
    (fun x => { tmps := #[.pointer (some ⟨p, 0, none⟩), undef, .slice none 0 0, .pointer (some ⟨w.heap.size, 0, none⟩), .int .i64 (x.1 : Int), .pointer (some ⟨p, 0, none⟩), .func (.func 57) #[] #[.pointer (some ⟨w.heap.size + 1, 0, none⟩)], .int .i64 (x.1 : Int), .int .i64 x.2, undef, undef, undef, undef, undef], defers := [] }) ?assign ?body ?done ?stop
  case assign =>
    intro l x W K hK
    gi_wp2
    exact hK
  case body =>
    rintro l pre x W ⟨⟨v, hv, hrow, _⟩, hB, hsz⟩ hlt
    have hc := hv.cell
    have hlow := own_low hrow (show w.heap.size ≤ w.heap.size + 2 by omega)
    have EV : Aside0 (nums .i64 (keys (pre ++ [x])) = nums .i64 (keys pre) ++ [.int .i64 (x.1 : Int)]) := ⟨by simp [keys, nums]⟩
    gi_wp2_with (gi_at_builtin; refine wpListIn_append_own _ rfl _ _ 41 rfl (w.heap.size + 2) 3 i0 (.int .i64 0) 1 8 Tryd.underlying41 hi hz0' hz1 hz2 rfl (by decide) _ _ _ rfl (hrow.alloc _) ⟨W.heap.size, 0, none⟩ 1 1 [.int .i64 (x.1 : Int)] rfl rfl (cell_one_new _ _ _) (by simp [Value.oneCell']) (by unfold maxLen; omega) (by omega) (by simp; omega) ?_; intro v' w1 hown' hgrow _; obtain ⟨g', cap', rfl⟩ := ownsRow_succ hown'; obtain ⟨hv1, hv2, hr2, hk2, hb2⟩ := hv.appended (by decide) hlow hB.size (Nat.le_refl _) (own_low hown' (show w.heap.size ≤ w.heap.size + 2 by omega)) hgrow; have hc1 := hv1.cell; have hf1 := hv1.frozen)
    have hst : Stay [w.heap.size + 1, p, sb, ob, wb, 0] W (w1.setCell ⟨w.heap.size, 0, none⟩ (.slice (some ⟨g', 0, none⟩) (pre.length + 1) cap')) := by
      intro k hk
      have hk2 : k < w.heap.size + 2 ∧ k ≠ w.heap.size := by
        simp only [List.mem_cons, List.not_mem_nil, or_false] at hk
        omega
      rw [Below.heap_setCell _ _ _ _ hk2.2, hgrow.block k (by simp; omega) (fun e => by have := own_base hrow k e.symm; omega)]
      exact Below.heap_alloc W _ k (by omega)
    refine ⟨hk2.from _, hst, ⟨_, hv2, ?_, trivial⟩, hB.trans hb2, Nat.le_trans hsz hb2.size⟩
    rw [List.length_append, EV.out]
    exact hown'.kept (grownBy_setCell' w1 _ _) (.inr (hv1.not_row (by decide) hown').symm)
  case done =>
    rintro D ys W hD rfl ⟨⟨v, hv, hrow, _⟩, hB, hsz⟩ hK
    have hc := hv.cell
    gi_wp2
    refine ⟨by simp, .inl ⟨_, _, rfl, run_takeDeferred hK, ?_⟩⟩
    exact ⟨_, results_tmp rfl _ _ _, v, rfl, own_low (ownsRow_putObj hrow _ hK rfl) (by omega), hB.trans (belowK_b (w := w) (Nat.le_refl _) W D _ _ (by simp at hD; omega) hK rfl rfl)⟩
  case stop =>
    rintro D c pre W _ _ h _
    exact h.elim
theorem places_any {p sb ob wb n : Nat} {f : Nat → Bool} {xs : List Int} {vs : List Nat} {w : World} (hS : SlAt w p sb ob wb n f xs vs) (hT : Tb w) :
    Calls Tryd.prog 23 #[.pointer (some ⟨p, 0, none⟩)] w fun e w' => ∃ A c, e = .returned (.slice A (cntF f n) c) ∧ cntF f n ≤ c ∧ Kd.C (Kd.int .i64) w' A (cntF f n) (keys (ons f xs n)) ∧ w'.ownsRow w.heap.size 3 1 (.slice A (cntF f n) c) (cntF f n) (nums .i64 (keys (ons f xs n))) ∧ Below w.heap.size w w' := by
  refine (callsIn_wide.1 (places_in 3 (by omega) w hS hT)).mono ?_
  rintro e w' ⟨v, rfl, hrow, hb⟩
  rw [ons_length] at hrow
  obtain ⟨A, c, rfl, h1, h2⟩ := own_C hrow
  exact ⟨A, c, rfl, h1, h2, hrow, hb⟩
end Go.Proofs.YtbjkncgpoengaaaDoor.G9
