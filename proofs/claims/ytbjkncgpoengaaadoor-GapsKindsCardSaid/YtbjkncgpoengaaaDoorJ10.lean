/- Walks of the arrays with gaps: their elements, and their places, in rows of their own. -/
import Derived.Test.YtbjkncgpoengaaaDoorJ9
import Derived.Test.YtbjkncgpoengaaaDoorF7
namespace Go.Proofs.YtbjkncgpoengaaaDoor.HP
open Go.RowKit Go.Shelf Go.Proofs.YtbjkncgpoengaaaDoorW.PrintWords Go.Proofs.YtbjkncgpoengaaaDoorW.PrintLast Go.Proofs.YtbjkncgpoengaaaDoorW.PrintMore G1 G0 Q1 G2 G3 G4 G5 G6 G7 G8 G9 G10 G11
open F7 (keeps_below)
set_option linter.unusedVariables false
set_option linter.unusedSimpArgs false
attribute [local go_sem] Oper.semAt_some

theorem all_any (p : Option Addr) (w : World) : Calls Tryd.prog 56 #[.pointer p] w fun e w' => e = .returned (.func (.func 74) #[] #[.pointer (some ⟨w.heap.size, 0, none⟩)]) ∧ w.alloc (.cells #[.pointer p] 26) = w' := by
  go_enter Tryd.func56, Tryd.ntmps56
  go_wp2
  go_ret
  exact ⟨rfl, rfl⟩
theorem all_stops {pr : Int → Int × Int} (m : Nat) (hm : 1 ≤ m) (Bn : Nat) {p sb ob wb n : Nat} {f : Nat → Bool} {xs : List Int} {vs : List Nat} {w : World} (hB : w.heap[Bn]? = some (.cells #[.pointer (some ⟨p, 0, none⟩)] 26 (0, 0))) (hS : SlAt pr w p sb ob wb n f xs vs) (hT : Tb w) :
    SeqStopsK Fence.wide m Tryd.prog 74 #[.pointer (some ⟨Bn, 0, none⟩)] (fun x : Nat × Int => #[.int .i64 (x.1 : Int), .agg #[.int .i64 (pr x.2).1, .int .i64 (pr x.2).2]]) (Stay [Bn, p, sb, ob, wb, 0]) (fun ys => ys = ons f xs n) (fun pre => ∃ k, k ≤ n ∧ pre = ons f xs k) n w := fun l J Jx W hW hJ hJx hY h0 =>
  all1_in m hm l Bn [Bn, p, sb, ob, wb, 0] (by simp) J Jx (fun pre W W' h ⟨d, hd⟩ => by rw [hd]; exact hJ _ _ _ none h (grown_drewN W d) (fun r e => by cases e)) (fun pre x W h hl => hY pre x W h (Nat.lt_of_lt_of_le hl (cntF_le f n))) W (blk_below hB hW) (hS.below hW) (Kd.C_below hT hW) h0
/-- The same, and no more are told than there are. -/
theorem all_stopsN {pr : Int → Int × Int} (m : Nat) (hm : 1 ≤ m) (Bn : Nat) {p sb ob wb n : Nat} {f : Nat → Bool} {xs : List Int} {vs : List Nat} {w : World} (hB : w.heap[Bn]? = some (.cells #[.pointer (some ⟨p, 0, none⟩)] 26 (0, 0))) (hS : SlAt pr w p sb ob wb n f xs vs) (hT : Tb w) :
    SeqStopsK Fence.wide m Tryd.prog 74 #[.pointer (some ⟨Bn, 0, none⟩)] (fun x : Nat × Int => #[.int .i64 (x.1 : Int), .agg #[.int .i64 (pr x.2).1, .int .i64 (pr x.2).2]]) (Stay [Bn, p, sb, ob, wb, 0]) (fun ys => ys = ons f xs n) (fun pre => ∃ k, k ≤ n ∧ pre = ons f xs k) (cntF f n) w := fun l J Jx W hW hJ hJx hY h0 =>
  all1_in m hm l Bn [Bn, p, sb, ob, wb, 0] (by simp) J Jx (fun pre W W' h ⟨d, hd⟩ => by rw [hd]; exact hJ _ _ _ none h (grown_drewN W d) (fun r e => by cases e)) hY W (blk_below hB hW) (hS.below hW) (Kd.C_below hT hW) h0
theorem parts2 : ∃ i0, Tryd.prog.info? 30 = some i0 ∧ i0.zero = some (.agg #[.int .i64 0, .int .i64 0]) ∧ i0.size = 2 ∧ i0.bytes = 16 := by
  obtain ⟨i, hi, hzz⟩ := Option.map_eq_some_iff.1 info_two
  simp only [Prod.mk.injEq] at hzz
  exact ⟨i, hi, hzz⟩
theorem cell_two_new (w : World) (x y : Value) (t : TypeId) : ∀ j u, [x, y][j]? = some u → (w.alloc (.cells #[x, y] t)).cell? ((⟨w.heap.size, 0, none⟩ : Addr).add j) = some u := by
  intro j u hj
  rw [add_plain, blk_cell (blk_new w (.cells #[x, y] t))]
  match j, hj with
  | 0, hj => simpa using hj
  | 1, hj => simpa using hj
  | j + 2, hj => simp at hj
theorem own_shapeP {w : World} {base e n : Nat} {v : Value} {xs : List Value} (h : w.ownsRow base e 2 v n xs) : ∃ A c, v = .slice A n c := by
  rcases h.2 with ⟨h1, h2⟩ | ⟨g, cap, cur, h1, _⟩
  · exact ⟨none, 0, by rw [h1, h2]⟩
  · exact ⟨_, _, h1⟩
set_option maxRecDepth 100000 in
set_option maxHeartbeats 4000000 in
theorem items_in {pr : Int → Int × Int} (m : Nat) (hm : 3 ≤ m) {p sb ob wb n : Nat} {f : Nat → Bool} {xs : List Int} {vs : List Nat} (w : World) (hS : SlAt pr w p sb ob wb n f xs vs) (hT : Tb w) :
    CallsIn Fence.wide m Tryd.prog 20 #[.pointer (some ⟨p, 0, none⟩)] w fun e W' => ∃ v, e = .returned v ∧ W'.ownsRow w.heap.size 30 2 v (ons f xs n).length (prs pr (vals (ons f xs n))) ∧ Below w.heap.size w W' := by
  have h1 : 1 ≤ m := by omega
  have hn := hS.bits.high
  have hz0 : 0 < w.heap.size := by
    obtain ⟨ad, e, hx⟩ := Kd.at_int hT 0 (by omega) (by omega)
    cases e
    exact World.block_lt_of_cell? w _ hx
  have q1 := blk_lt hS.hp
  have q2 := blk_lt hS.hs
  have q3 := blk_lt hS.bits.ho
  have q4 := blk_lt hS.bits.hw
  have hS0 := Aside0.mk hS
  have hT0 := Aside0.mk hT
  clear hS hT
  obtain ⟨i0, hi, hz0', hz1, hz2⟩ := parts2
  refine callsIn_of_wp_marks Tryd.func20 rfl trivial ?_ rfl
  simp only [Tryd.ntmps20, List.size_toArray, List.length_cons, List.length_nil, Nat.reduceAdd, Nat.reduceSub, Array.replicate_succ, Array.replicate_zero, List.push_toArray, List.append_toArray, List.nil_append, List.cons_append]
  gi_wp2_with (refine ⟨trivial, ?_⟩; gi_at_call 56; refine (callsIn_wide.2 (all_any _ _)).mono ?_; rintro e w' ⟨rfl, rfl⟩)
  have hB0 : Below w.heap.size w ((w.alloc (.cells #[.slice none 0 0] 39)).alloc (.cells #[.pointer (some ⟨p, 0, none⟩)] 26)) := ((Below.refl _ w).alloc (Nat.le_refl _) _).alloc (by simp) _
  have bO := Boxed.new w 39 (.slice none 0 0)
  have bN := blk_new (w.alloc (.cells #[.slice none 0 0] 39)) (.cells #[.pointer (some ⟨p, 0, none⟩)] 26)
  rw [World.size_alloc] at bN
  have hS1 := hS0.out.below hB0
  have hT1 := Kd.C_below hT0.out hB0
  refine wpIn_rangeFunc_ownH rfl h1 (gf := 74) (lb := #[.pointer (some ⟨w.heap.size + 1, 0, none⟩)]) rfl trivial (enters_of Tryd.func74 (by kernel_rfl) rfl)
    (all_stops (m - 1) (by omega) (w.heap.size + 1) bN hS1 hT1) Stay.trans (fun W l o o' a b _ _ => stay_putObj (by simp; omega) W l o o' a b) (Below.refl _ _) (fun _ => rfl)
    (fun pre W => (∃ v, Boxed W w.heap.size 39 v ∧ W.ownsRow (w.heap.size + 2) 30 2 v pre.length (prs pr (vals pre)) ∧ True) ∧ Below w.heap.size w W ∧ w.heap.size + 2 ≤ W.heap.size)
    (fun _ _ _ => False)
    (OwnFrom.and (Own.from (holdsRow_own (w.heap.size + 2) w.heap.size 39 30 2 (fun pre : List (Nat × Int) => pre.length) (fun pre => prs pr (vals pre)) (fun pre v => True)) _) (OwnFrom.and (ownFrom_below (Nat.le_refl _) (by simp; omega)) (fun s W W' row h hg hr => Nat.le_trans h hg.size)))
    (fun _ _ _ _ _ hs _ _ => hs)
    ⟨⟨_, bO.alloc _, World.ownsRow_nil _ _ _ _, trivial⟩, hB0, by simp⟩
    (fun x a' W => ∃ bv, a' = { tmps := #[.pointer (some ⟨p, 0, none⟩), undef, .slice none 0 0, .pointer (some ⟨w.heap.size, 0, none⟩), undef, .pointer (some ⟨bv, 0, none⟩), .pointer (some ⟨p, 0, none⟩), .func (.func 74) #[] #[.pointer (some ⟨w.heap.size + 1, 0, none⟩)], .int .i64 (x.1 : Int), .agg #[.int .i64 (pr x.2).1, .int .i64 (pr x.2).2], undef, undef, undef, undef, undef], defers := [] } ∧ W.heap[bv]? = some (Obj.cells #[.int .i64 (pr x.2).1, .int .i64 (pr x.2).2] 30 (0, 0)))
    (fun x a' _ W W' row h hg hr => by
      obtain ⟨bv, e, hb⟩ := h
      exact ⟨bv, e, (hg.block bv (blk_lt hb) (fun e => by obtain ⟨_, o, ho, hc⟩ := hr bv e.symm; rw [hb] at ho; cases ho; cases hc)).trans hb⟩) ?assign ?body ?done ?stop
  case assign =>
    rintro l pre x W K ⟨⟨v, hv, hrow, _⟩, hB, hsz⟩ hK
    have HK := Aside0.mk hK
    have HI := Aside0.mk (And.intro hv (And.intro hrow (And.intro hB hsz)))
    clear hK hv hrow hB hsz
    gi_wp2
    have hba := below_alloc (Below.refl W.heap.size W) (.cells #[.int .i64 (pr x.2).1, .int .i64 (pr x.2).2] 30)
    refine HK.out _ _ (keeps_below hba) (Stay.of_below hba (fun k hk => by
      simp only [List.mem_cons, List.not_mem_nil, or_false] at hk
      have := HI.out.2.2.2
      omega)) ⟨⟨v, HI.out.1.alloc _, HI.out.2.1.alloc _, trivial⟩, HI.out.2.2.1.trans (hba.mono HI.out.2.2.1.size), Nat.le_trans HI.out.2.2.2 hba.size⟩ ⟨W.heap.size, rfl, blk_new W _⟩
  case body =>
    rintro l pre x a' W hl1 hr1 ⟨⟨v, hv, hrow, _⟩, hB, hsz⟩ ⟨bv, rfl, hbv⟩ hlt
    have hc := hv.cell
    have d0 : (_ : Option Value) = some (.int .i64 (pr x.2).1) := (blk_cell hbv 0).trans rfl
    have d1 : (_ : Option Value) = some (.int .i64 (pr x.2).2) := (blk_cell hbv 1).trans rfl
    have hlow := own_low hrow (show w.heap.size ≤ w.heap.size + 2 by omega)
    have EV : Aside0 (prs pr (vals (pre ++ [x])) = prs pr (vals pre) ++ [.int .i64 (pr x.2).1, .int .i64 (pr x.2).2]) := ⟨by simp [vals, prs]⟩
    gi_wp2_with (gi_at_builtin; refine wpListIn_append_own _ rfl _ _ 39 rfl (w.heap.size + 2) 30 i0 (.agg #[.int .i64 0, .int .i64 0]) 2 16 Tryd.underlying39 hi hz0' hz1 hz2 rfl (by decide) _ _ _ rfl (hrow.alloc _) ⟨W.heap.size, 0, none⟩ 1 1 [.int .i64 (pr x.2).1, .int .i64 (pr x.2).2] rfl rfl (cell_two_new _ _ _ _) (by simp [Value.oneCell']) (by unfold maxLen; omega) (by omega) (by simp; omega) ?_; intro v' w1 hown' hgrow _; obtain ⟨g', cap', rfl⟩ := ownsRow_succ hown'; obtain ⟨hv1, hv2, hr2, hk2, hb2⟩ := hv.appended (by decide) hlow hB.size (Nat.le_refl _) (own_low hown' (show w.heap.size ≤ w.heap.size + 2 by omega)) hgrow; have hc1 := hv1.cell; have hf1 := hv1.frozen)
    have hst : Stay [w.heap.size + 1, p, sb, ob, wb, 0] W (w1.setCell ⟨w.heap.size, 0, none⟩ (.slice (some ⟨g', 0, none⟩) (pre.length + 1) cap')) := by
      intro k hk
      have hk2 : k < w.heap.size + 2 ∧ k ≠ w.heap.size := by
        simp only [List.mem_cons, List.not_mem_nil, or_false] at hk
        omega
      rw [Below.heap_setCell _ _ _ _ hk2.2, hgrow.block k (by simp; omega) (fun e => by have := own_base hrow k e.symm; omega)]
      exact Below.heap_alloc W _ k (by omega)
    refine ⟨hk2.from _, hst, ⟨_, hv2, ?_, trivial⟩, hB.trans hb2, Nat.le_trans hsz hb2.size⟩
    rw [List.length_append, EV.out]
    exact hown'.kept (grownBy_setCell' w1 _ _) (.inr (hv1.not_row (by decide) hown').symm)
  case done =>
    rintro D ys W hD rfl ⟨⟨v, hv, hrow, _⟩, hB, hsz⟩ hK
    have hc := hv.cell
    gi_wp2
    refine ⟨by simp, .inl ⟨_, _, rfl, run_takeDeferred hK, ?_⟩⟩
    exact ⟨_, results_tmp rfl _ _ _, v, rfl, own_low (ownsRow_putObj hrow _ hK rfl) (by omega), hB.trans (belowK_b (w := w) (Nat.le_refl _) W D _ _ (by simp at hD; omega) hK rfl rfl)⟩
  case stop =>
    rintro D c pre W _ _ h _
    exact h.elim
theorem items_any {pr : Int → Int × Int} {p sb ob wb n : Nat} {f : Nat → Bool} {xs : List Int} {vs : List Nat} {w : World} (hS : SlAt pr w p sb ob wb n f xs vs) (hT : Tb w) :
    Calls Tryd.prog 20 #[.pointer (some ⟨p, 0, none⟩)] w fun e w' => ∃ A c, e = .returned (.slice A (cntF f n) c) ∧ w'.ownsRow w.heap.size 30 2 (.slice A (cntF f n) c) (cntF f n) (prs pr (vals (ons f xs n))) ∧ Below w.heap.size w w' := by
  refine (callsIn_wide.1 (items_in 3 (by omega) w hS hT)).mono ?_
  rintro e w' ⟨v, rfl, hrow, hb⟩
  rw [ons_length] at hrow
  obtain ⟨A, c, rfl⟩ := own_shapeP hrow
  exact ⟨A, c, rfl, hrow, hb⟩
set_option maxRecDepth 100000 in
set_option maxHeartbeats 4000000 in
theorem places_in {pr : Int → Int × Int} (m : Nat) (hm : 3 ≤ m) {p sb ob wb n : Nat} {f : Nat → Bool} {xs : List Int} {vs : List Nat} (w : World) (hS : SlAt pr w p sb ob wb n f xs vs) (hT : Tb w) :
    CallsIn Fence.wide m Tryd.prog 24 #[.pointer (some ⟨p, 0, none⟩)] w fun e W' => ∃ v, e = .returned v ∧ W'.ownsRow w.heap.size 3 1 v (ons f xs n).length (nums .i64 (keys (ons f xs n))) ∧ Below w.heap.size w W' := by
  have h1 : 1 ≤ m := by omega
  have hn := hS.bits.high
  have hz0 : 0 < w.heap.size := by
    obtain ⟨ad, e, hx⟩ := Kd.at_int hT 0 (by omega) (by omega)
    cases e
    exact World.block_lt_of_cell? w _ hx
  have q1 := blk_lt hS.hp
  have q2 := blk_lt hS.hs
  have q3 := blk_lt hS.bits.ho
  have q4 := blk_lt hS.bits.hw
  have hS0 := Aside0.mk hS
  have hT0 := Aside0.mk hT
  clear hS hT
  obtain ⟨i0, hi, hz0', hz1, hz2⟩ := info_parts G9.info3
  refine callsIn_of_wp_marks Tryd.func24 rfl trivial ?_ rfl
  simp only [Tryd.ntmps24, List.size_toArray, List.length_cons, List.length_nil, Nat.reduceAdd, Nat.reduceSub, Array.replicate_succ, Array.replicate_zero, List.push_toArray, List.append_toArray, List.nil_append, List.cons_append]
  gi_wp2_with (refine ⟨trivial, ?_⟩; gi_at_call 56; refine (callsIn_wide.2 (all_any _ _)).mono ?_; rintro e w' ⟨rfl, rfl⟩)
  have hB0 : Below w.heap.size w ((w.alloc (.cells #[.slice none 0 0] 41)).alloc (.cells #[.pointer (some ⟨p, 0, none⟩)] 26)) := ((Below.refl _ w).alloc (Nat.le_refl _) _).alloc (by simp) _
  have bO := Boxed.new w 41 (.slice none 0 0)
  have bN := blk_new (w.alloc (.cells #[.slice none 0 0] 41)) (.cells #[.pointer (some ⟨p, 0, none⟩)] 26)
  rw [World.size_alloc] at bN
  have hS1 := hS0.out.below hB0
  have hT1 := Kd.C_below hT0.out hB0
  refine wpIn_rangeFunc_ownG rfl h1 (gf := 74) (lb := #[.pointer (some ⟨w.heap.size + 1, 0, none⟩)]) rfl trivial (enters_of Tryd.func74 (by kernel_rfl) rfl)
    (all_stops (m - 1) (by omega) (w.heap.size + 1) bN hS1 hT1) Stay.trans (fun W l o o' a b _ _ => stay_putObj (by simp; omega) W l o o' a b) (Below.refl _ _) (fun _ => rfl)
    (fun pre W => (∃ v, Boxed W w.heap.size 41 v ∧ W.ownsRow (w.heap.size + 2) 3 1 v pre.length (nums .i64 (keys pre)) ∧ True) ∧ Below w.heap.size w W ∧ w.heap.size + 2 ≤ W.heap.size)
    (fun _ _ _ => False)
    (OwnFrom.and (Own.from (holdsRow_own (w.heap.size + 2) w.heap.size 41 3 1 (fun pre : List (Nat × Int) => pre.length) (fun pre => nums .i64 (keys pre)) (fun pre v => True)) _) (OwnFrom.and (ownFrom_below (Nat.le_refl _) (by simp; omega)) (fun s W W' row h hg hr => Nat.le_trans h hg.size)))
    (fun _ _ _ _ _ hs _ _ => hs)
    ⟨⟨_, bO.alloc _, World.ownsRow_nil _ _ _ _, trivial⟩, hB0, by simp⟩
    (fun x => { tmps := #[.pointer (some ⟨p, 0, none⟩), undef, .slice none 0 0, .pointer (some ⟨w.heap.size, 0, none⟩), .int .i64 (x.1 : Int), .pointer (some ⟨p, 0, none⟩), .func (.func 74) #[] #[.pointer (some ⟨w.heap.size + 1, 0, none⟩)], .int .i64 (x.1 : Int), .agg #[.int .i64 (pr x.2).1, .int .i64 (pr x.2).2], undef, undef, undef, undef, undef], defers := [] }) ?assign ?body ?done ?stop
  case assign =>
    intro l x W K hK
    gi_wp2
    exact hK
  case body =>
    rintro l pre x W ⟨⟨v, hv, hrow, _⟩, hB, hsz⟩ hlt
    have hc := hv.cell
    have hlow := own_low hrow (show w.heap.size ≤ w.heap.size + 2 by omega)
    have EV : Aside0 (nums .i64 (keys (pre ++ [x])) = nums .i64 (keys pre) ++ [.int .i64 (x.1 : Int)]) := ⟨by simp [keys, nums]⟩
    gi_wp2_with (gi_at_builtin; refine wpListIn_append_own _ rfl _ _ 41 rfl (w.heap.size + 2) 3 i0 (.int .i64 0) 1 8 Tryd.underlying41 hi hz0' hz1 hz2 rfl (by decide) _ _ _ rfl (hrow.alloc _) ⟨W.heap.size, 0, none⟩ 1 1 [.int .i64 (x.1 : Int)] rfl rfl (cell_one_new _ _ _) (by simp [Value.oneCell']) (by unfold maxLen; omega) (by omega) (by simp; omega) ?_; intro v' w1 hown' hgrow _; obtain ⟨g', cap', rfl⟩ := ownsRow_succ hown'; obtain ⟨hv1, hv2, hr2, hk2, hb2⟩ := hv.appended (by decide) hlow hB.size (Nat.le_refl _) (own_low hown' (show w.heap.size ≤ w.heap.size + 2 by omega)) hgrow; have hc1 := hv1.cell; have hf1 := hv1.frozen)
    have hst : Stay [w.heap.size + 1, p, sb, ob, wb, 0] W (w1.setCell ⟨w.heap.size, 0, none⟩ (.slice (some ⟨g', 0, none⟩) (pre.length + 1) cap')) := by
      intro k hk
      have hk2 : k < w.heap.size + 2 ∧ k ≠ w.heap.size := by
        simp only [List.mem_cons, List.not_mem_nil, or_false] at hk
        omega
      rw [Below.heap_setCell _ _ _ _ hk2.2, hgrow.block k (by simp; omega) (fun e => by have := own_base hrow k e.symm; omega)]
      exact Below.heap_alloc W _ k (by omega)
    refine ⟨hk2.from _, hst, ⟨_, hv2, ?_, trivial⟩, hB.trans hb2, Nat.le_trans hsz hb2.size⟩
    rw [List.length_append, EV.out]
    exact hown'.kept (grownBy_setCell' w1 _ _) (.inr (hv1.not_row (by decide) hown').symm)
  case done =>
    rintro D ys W hD rfl ⟨⟨v, hv, hrow, _⟩, hB, hsz⟩ hK
    have hc := hv.cell
    gi_wp2
    refine ⟨by simp, .inl ⟨_, _, rfl, run_takeDeferred hK, ?_⟩⟩
    exact ⟨_, results_tmp rfl _ _ _, v, rfl, own_low (ownsRow_putObj hrow _ hK rfl) (by omega), hB.trans (belowK_b (w := w) (Nat.le_refl _) W D _ _ (by simp at hD; omega) hK rfl rfl)⟩
  case stop =>
    rintro D c pre W _ _ h _
    exact h.elim
theorem places_any {pr : Int → Int × Int} {p sb ob wb n : Nat} {f : Nat → Bool} {xs : List Int} {vs : List Nat} {w : World} (hS : SlAt pr w p sb ob wb n f xs vs) (hT : Tb w) :
    Calls Tryd.prog 24 #[.pointer (some ⟨p, 0, none⟩)] w fun e w' => ∃ A c, e = .returned (.slice A (cntF f n) c) ∧ cntF f n ≤ c ∧ Kd.C (Kd.int .i64) w' A (cntF f n) (keys (ons f xs n)) ∧ w'.ownsRow w.heap.size 3 1 (.slice A (cntF f n) c) (cntF f n) (nums .i64 (keys (ons f xs n))) ∧ Below w.heap.size w w' := by
  refine (callsIn_wide.1 (places_in 3 (by omega) w hS hT)).mono ?_
  rintro e w' ⟨v, rfl, hrow, hb⟩
  rw [ons_length] at hrow
  obtain ⟨A, c, rfl, h1, h2⟩ := own_C hrow
  exact ⟨A, c, rfl, h1, h2, hrow, hb⟩
end Go.Proofs.YtbjkncgpoengaaaDoor.HP
