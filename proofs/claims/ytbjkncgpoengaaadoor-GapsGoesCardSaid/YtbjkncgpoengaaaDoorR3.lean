/- The law GapsGoes walked. -/
import Derived.Test.YtbjkncgpoengaaaDoorRF
import Derived.Test.YtbjkncgpoengaaaDoorR2
namespace Go.Proofs.YtbjkncgpoengaaaDoor.R3
open Go.RowKit Go.Shelf Go.Proofs.YtbjkncgpoengaaaDoorW.PrintWords Go.Proofs.YtbjkncgpoengaaaDoorW.PrintLast Go.Proofs.YtbjkncgpoengaaaDoorW.PrintMore G1 G0 Q1 G2 G3 G4 G5 G6 G7 G8 G9 G10 G11 G12 S1 F4 F7 RF R1 R2
set_option linter.unusedVariables false
set_option linter.unusedSimpArgs false
attribute [local go_sem] Oper.semAt_some

set_option maxRecDepth 100000 in
theorem goes_no (n stop : Int) (A : Option Addr) (c : Nat) (l : List Cal) (w : World) (hT : Tb w) (h : n < 1 ∨ 200 < n ∨ 100 < l.length) :
    Calls Tryd.prog 4 #[.int .i64 n, .slice A l.length c, .int .i64 stop] w fun e w' => e = .returned (.bool true) ∧ Below w.heap.size w w' := by
  have HS := Aside0.mk (((Sep.nil w).new_blk #[.int .i64 stop] 3).new_blk #[.bool false] 4)
  simp only [World.size_alloc] at HS
  have HT := Aside0.mk hT
  clear hT
  by_cases h1 : n < 1
  · clear h
    refine callsIn_wide.1 (callsIn_of_wp_marks (n := 3) Tryd.func4 rfl trivial ?_ rfl)
    refine wpIn_wide.2 ?_
    simp only [Tryd.ntmps4, List.size_toArray, List.length_cons, List.length_nil, Nat.reduceAdd, Nat.reduceSub, Array.replicate_succ, Array.replicate_zero, List.push_toArray, List.append_toArray, List.nil_append, List.cons_append]
    have C := Aside0.mk (awake_any _ (Kd.C_below HT.out HS.out.below))
    go_wp2_with fail
    refine C.out.mono ?_
    clear C
    rintro e w30 ⟨rfl, hw⟩
    replace HS := Aside0.mk (HS.out.step hw)
    clear hw
    have f0 := blk_frozen (HS.out.blk 1 rfl) 0
    have c0 : (_ : Option Value) = some (.bool false) := (blk_cell (HS.out.blk 1 rfl) 0).trans rfl
    go_wp2
    replace HS := Aside0.mk (HS.out.turn_blk 1 rfl 0 (.bool true))
    (try simp only [Exit.inBlock, Exit.then])
    refine leave0 (results_cell (t := 6) (ty := 4) (b := w.heap.size + 1) rfl rfl ((blk_cell (HS.out.blk 1 rfl) 0).trans rfl) (run_isAgg_plain Tryd.underlying4 rfl _)) ⟨rfl, HS.out.below⟩
  · by_cases h2 : 200 < n
    · clear h
      refine callsIn_wide.1 (callsIn_of_wp_marks (n := 3) Tryd.func4 rfl trivial ?_ rfl)
      refine wpIn_wide.2 ?_
      simp only [Tryd.ntmps4, List.size_toArray, List.length_cons, List.length_nil, Nat.reduceAdd, Nat.reduceSub, Array.replicate_succ, Array.replicate_zero, List.push_toArray, List.append_toArray, List.nil_append, List.cons_append]
      have C := Aside0.mk (awake_any _ (Kd.C_below HT.out HS.out.below))
      go_wp2_with fail
      refine C.out.mono ?_
      clear C
      rintro e w30 ⟨rfl, hw⟩
      replace HS := Aside0.mk (HS.out.step hw)
      clear hw
      have f0 := blk_frozen (HS.out.blk 1 rfl) 0
      have c0 : (_ : Option Value) = some (.bool false) := (blk_cell (HS.out.blk 1 rfl) 0).trans rfl
      go_wp2
      replace HS := Aside0.mk (HS.out.turn_blk 1 rfl 0 (.bool true))
      (try simp only [Exit.inBlock, Exit.then])
      refine leave0 (results_cell (t := 6) (ty := 4) (b := w.heap.size + 1) rfl rfl ((blk_cell (HS.out.blk 1 rfl) 0).trans rfl) (run_isAgg_plain Tryd.underlying4 rfl _)) ⟨rfl, HS.out.below⟩
    · have h3 : 100 < l.length := by omega
      clear h
      refine callsIn_wide.1 (callsIn_of_wp_marks (n := 3) Tryd.func4 rfl trivial ?_ rfl)
      refine wpIn_wide.2 ?_
      simp only [Tryd.ntmps4, List.size_toArray, List.length_cons, List.length_nil, Nat.reduceAdd, Nat.reduceSub, Array.replicate_succ, Array.replicate_zero, List.push_toArray, List.append_toArray, List.nil_append, List.cons_append]
      have C := Aside0.mk (awake_any _ (Kd.C_below HT.out HS.out.below))
      go_wp2_with fail
      refine C.out.mono ?_
      clear C
      rintro e w30 ⟨rfl, hw⟩
      replace HS := Aside0.mk (HS.out.step hw)
      clear hw
      have f0 := blk_frozen (HS.out.blk 1 rfl) 0
      have c0 : (_ : Option Value) = some (.bool false) := (blk_cell (HS.out.blk 1 rfl) 0).trans rfl
      go_wp2
      replace HS := Aside0.mk (HS.out.turn_blk 1 rfl 0 (.bool true))
      (try simp only [Exit.inBlock, Exit.then])
      refine leave0 (results_cell (t := 6) (ty := 4) (b := w.heap.size + 1) rfl rfl ((blk_cell (HS.out.blk 1 rfl) 0).trans rfl) (run_isAgg_plain Tryd.underlying4 rfl _)) ⟨rfl, HS.out.below⟩
/-- What is gone through: rising, slot by slot. -/
theorem ons_at {f : Nat → Bool} {xs : List Int} {n k : Nat} (hk : k < (ons f xs n).length) : ∃ t, (ons f xs n)[k]? = some (t, xs.getD t 0) ∧ t < n ∧ f t = true := by
  have hm : (ons f xs n)[k] ∈ ons f xs n := List.getElem_mem hk
  unfold ons at hm
  obtain ⟨t, ht, he⟩ := List.mem_map.1 hm
  obtain ⟨h1, h2⟩ := List.mem_filter.1 ht
  refine ⟨t, ?_, List.mem_range.1 h1, h2⟩
  rw [List.getElem?_eq_getElem hk, he]
  rfl
theorem ons_rise (f : Nat → Bool) (xs : List Int) (n : Nat) : (ons f xs n).Pairwise fun a b => a.1 < b.1 := by
  unfold ons
  rw [List.pairwise_map]
  exact (List.pairwise_lt_range).filter _
theorem keys_get {L : List (Nat × Int)} {k : Nat} {x : Nat × Int} (h : L[k]? = some x) : (keys L).getD k 0 = x.1 ∧ (vals L).getD k 0 = x.2 := by
  unfold keys vals
  rw [List.getD_eq_getElem?_getD, List.getD_eq_getElem?_getD, List.getElem?_map, List.getElem?_map, h]
  exact ⟨rfl, rfl⟩
theorem pre_step {L pre : List (Nat × Int)} {x : Nat × Int} (h : pre <+: L) : pre ++ [x] <+: L ↔ L[pre.length]? = some x := by
  obtain ⟨r, rfl⟩ := h
  rw [List.prefix_append_right_inj, List.getElem?_append_right (Nat.le_refl _), Nat.sub_self]
  cases r with
  | nil => simp
  | cons y r => simp [List.cons_prefix_cons, eq_comm]
/-- The objects of the law. -/
def Objs (w0 : Nat) (stop : Int) (p sb ob wb n : Nat) (g : Gap) (A2 A3 : Option Addr) (c2 c3 b3 b5 b7 b9 : Nat) (res : Bool) (k : Int) : List Ob :=
  [Blk w0 #[.int .i64 stop] 3, Blk (w0 + 1) #[.bool res] 4, Arr p sb ob wb n g, Blk b3 #[.pointer (some ⟨p, 0, none⟩)] 24, S1.Own (.slice A2 (cntF g.on n) c2) (vals (ons g.on g.xs n)), Blk b5 #[.slice A2 (cntF g.on n) c2] 41,
    S1.Own (.slice A3 (cntF g.on n) c3) (keys (ons g.on g.xs n)), Blk b7 #[.slice A3 (cntF g.on n) c3] 41, Blk (b7 + 1) #[.pointer (some ⟨p, 0, none⟩)] 24, Blk b9 #[.int .i64 k] 3]
def Objs2 (w0 : Nat) (stop : Int) (p sb ob wb n : Nat) (g : Gap) (A2 A3 : Option Addr) (c2 c3 b3 b5 b7 b9 D bc : Nat) (res : Bool) (k : Int) : List Ob :=
  [Blk w0 #[.int .i64 stop] 3, Blk (w0 + 1) #[.bool res] 4, Arr p sb ob wb n g, Blk b3 #[.pointer (some ⟨p, 0, none⟩)] 24, S1.Own (.slice A2 (cntF g.on n) c2) (vals (ons g.on g.xs n)), Blk b5 #[.slice A2 (cntF g.on n) c2] 41,
    S1.Own (.slice A3 (cntF g.on n) c3) (keys (ons g.on g.xs n)), Blk b7 #[.slice A3 (cntF g.on n) c3] 41, Blk (b7 + 1) #[.pointer (some ⟨p, 0, none⟩)] 24, Blk b9 #[.int .i64 (cntF g.on n : Int)] 3, Def D, Blk bc #[.int .i64 k] 3, Blk (bc + 1) #[.pointer (some ⟨p, 0, none⟩)] 24]
set_option maxRecDepth 100000 in
set_option maxHeartbeats 40000000 in
theorem goes_yes (n : Nat) (stop : Int) (A : Option Addr) (c : Nat) (l : List Cal) (w : World) (hT : Tb w) (hr : Kd.C kAct w A l.length l) (h1 : 1 ≤ n) (h2 : n ≤ 200) (h3 : l.length ≤ 100) :
    Calls Tryd.prog 4 #[.int .i64 n, .slice A l.length c, .int .i64 stop] w fun e w' => e = .returned (.bool true) ∧ Below w.heap.size w w' := by
  have hs0 := ((Sep.nil w).new_blk #[.int .i64 stop] 3).new_blk #[.bool false] 4
  have HS := Aside0.mk hs0
  simp only [World.size_alloc] at HS
  have HT := Aside0.mk hT
  have C := Aside0.mk (made_yes (c := c) h1 (by omega) (Kd.C_below hr hs0.below) (by omega))
  clear hT hr hs0
  refine callsIn_wide.1 (callsIn_of_wp_marks (n := 3) Tryd.func4 rfl trivial ?_ rfl)
  refine wpIn_wide.2 ?_
  simp only [Tryd.ntmps4, List.size_toArray, List.length_cons, List.length_nil, Nat.reduceAdd, Nat.reduceSub, Array.replicate_succ, Array.replicate_zero, List.push_toArray, List.append_toArray, List.nil_append, List.cons_append]
  go_wp2_with fail
  refine C.out.mono ?_
  clear C
  rintro e w1 ⟨p, sb, ob, wb, rfl, hF, hb⟩
  replace HS := Aside0.mk (HS.out.new_arr hb hF.2 hF.1)
  clear hF hb
  generalize runL n l = g at HS
  replace HS := Aside0.mk (HS.out.new_blk #[.pointer (some ⟨p, 0, none⟩)] 24)
  have c0 : (_ : Option Value) = some (.pointer (some ⟨p, 0, none⟩)) := (blk_cell (HS.out.blk 3 rfl) 0).trans rfl
  obtain ⟨vs, hs⟩ := HS.out.arr 2 rfl
  have C := Aside0.mk (items_any hs (Kd.C_below HT.out HS.out.below))
  clear hs
  go_wp2_with fail
  refine C.out.mono ?_
  clear C c0
  rintro e w2 ⟨A2, c2, rfl, hc2, _, hw, hb⟩
  replace HS := Aside0.mk ((HS.out.append (own_conv hb hw (vals_len _ _ _))).new_blk #[.slice A2 (cntF g.on n) c2] 41)
  clear hw hb
  generalize w1.heap.size = b3 at *
  have c0 : (_ : Option Value) = some (.pointer (some ⟨p, 0, none⟩)) := (blk_cell (HS.out.blk 3 rfl) 0).trans rfl
  obtain ⟨vs, hs⟩ := HS.out.arr 2 rfl
  have C := Aside0.mk (places_any hs (Kd.C_below HT.out HS.out.below))
  clear hs
  go_wp2_with fail
  refine C.out.mono ?_
  clear C c0
  rintro e w3 ⟨A3, c3, rfl, hc3, _, hw, hb⟩
  replace HS := Aside0.mk ((HS.out.append (own_conv hb hw (keys_len _ _ _))).new_blk #[.slice A3 (cntF g.on n) c3] 41)
  clear hw hb
  generalize w2.heap.size = b5 at *
  have c0 : (_ : Option Value) = some (.pointer (some ⟨p, 0, none⟩)) := (blk_cell (HS.out.blk 3 rfl) 0).trans rfl
  go_wp2_with fail
  refine (all_any _ _).mono ?_
  rintro e w4 ⟨rfl, rfl⟩
  replace HS := Aside0.mk (HS.out.new_blk #[.pointer (some ⟨p, 0, none⟩)] 24)
  simp only [World.size_alloc] at HS ⊢
  clear c0
  generalize hw4 : (w3.alloc (.cells #[.slice A3 (cntF g.on n) c3] 41)).alloc (.cells #[.pointer (some ⟨p, 0, none⟩)] 24) = w4 at *
  clear hw4
  generalize w3.heap.size = b7 at *
  have c0 : (_ : Option Value) = some (.pointer (some ⟨p, 0, none⟩)) := (blk_cell (HS.out.blk 3 rfl) 0).trans rfl
  have c1 : (_ : Option Value) = some (.slice A2 (cntF g.on n) c2) := (blk_cell (HS.out.blk 5 rfl) 0).trans rfl
  have c2' : (_ : Option Value) = some (.slice A3 (cntF g.on n) c3) := (blk_cell (HS.out.blk 7 rfl) 0).trans rfl
  obtain ⟨vs, hs⟩ := HS.out.arr 2 rfl
  have LN := Aside0.mk (fun m => Calls.quiet_of (n := m) (w := w4) ((slen_any (hs.below (pw_below_drewN (Below.refl _ _) m))).mono fun _ _ ⟨he, hm⟩ => ⟨he, hm.out⟩))
  clear hs
  go_wp2
  have hfn := fun w => run_fn_nil (b7 + 1) w
  go_quiet ((go_at_call 26; exact LN.out _))
  clear hfn LN c0 c1 c2'
  replace HS := Aside0.mk (HS.out.step (pw_below_drewN (Below.refl _ w4) nq))
  generalize w4.drewN nq = w5 at *
  have hits : Its w5 (some ⟨p, 0, none⟩) (ons g.on g.xs n) := .inr ⟨p, sb, ob, wb, n, g, rfl, HS.out.arr 2 rfl, Kd.C_below HT.out HS.out.below, rfl⟩
  have hb56 := below_alloc (Below.refl w5.heap.size w5) (.cells #[.int .i64 0] 3)
  replace HS : Aside0 (Sep w (w5.alloc (.cells #[.int .i64 0] 3)) (Objs w.heap.size stop p sb ob wb n g A2 A3 c2 c3 b3 b5 b7 w5.heap.size false 0)) := ⟨HS.out.new_blk #[.int .i64 0] 3⟩
  obtain ⟨K, N, hN, hL, hK, hseq⟩ := its_seq hits hb56 (HS.out.blk 8 rfl)
  have HK := Aside0.mk hK
  have hz6 : w5.heap.size + 1 = (w5.alloc (.cells #[.int .i64 0] 3)).heap.size := by simp
  have HQ : Aside0 (∀ k ∈ K, k < (w5.alloc (.cells #[.int .i64 0] 3)).heap.size) := ⟨fun k hk => by
    rcases hK k hk with e | e
    · rw [e]; exact (HS.out.lo _ (List.mem_of_getElem? (i := 8) rfl) (b7 + 1) (by simp [Blk])).2
    · omega⟩
  clear hK hits hb56
  go_wp2
  generalize hw5 : w5.alloc (.cells #[.int .i64 0] 3) = w6 at *
  clear hw5
  obtain ⟨b9, hb9⟩ : ∃ b, w5.heap.size = b := ⟨_, rfl⟩
  simp only [hb9] at HS HK hz6 ⊢
  clear hb9
  have HZ := Aside0.mk hz6
  have HL := Aside0.mk hL
  clear hz6 hL
  have HF : Aside0 (∀ (res : Bool) (k : Int), ∀ o ∈ Objs w.heap.size stop p sb ob wb n g A2 A3 c2 c3 b3 b5 b7 b9 res k, ∀ q ∈ o.F, q < w6.heap.size) := ⟨fun res k => foot_of (l := Objs w.heap.size stop p sb ob wb n g A2 A3 c2 c3 b3 b5 b7 b9 false 0) rfl fun o ho q hq => (HS.out.lo o ho q hq).2⟩
  apply wpIn_wide.1
  apply wpIn_rangeFunc_ownG (F := Fence.wide) (n := 3) rfl (by omega) (gf := 57) (lb := #[.pointer (some ⟨b7 + 1, 0, none⟩)]) rfl trivial (enters_of Tryd.func57 (by kernel_rfl) rfl)
    (hseq 2 (by omega)) Stay.trans (fun W l o o' a b _ _ => stay_putObj HQ.out W l o o' a b) (Below.refl _ _) (fun _ => rfl)
    (fun pre W => (pre <+: ons g.on g.xs n ∧ w6.heap.size ≤ W.heap.size) ∧ Sep w W (Objs w.heap.size stop p sb ob wb n g A2 A3 c2 c3 b3 b5 b7 b9 false (pre.length : Int)))
    (fun _ pre _ => ¬ pre <+: ons g.on g.xs n)
    (fun pre W W' row h hg hr => ⟨⟨h.1.1, Nat.le_trans h.1.2 hg.size⟩, sep_grow h.2 (HF.out _ _) hg (fun r e => (hr r e).1) HS.out.below.size⟩)
    (fun _ _ _ _ _ hs _ _ => hs) ⟨⟨List.nil_prefix, Nat.le_refl _⟩, HS.out⟩
  case hassign =>
    intro l x W K hK
    have HK := Aside0.mk hK
    clear hK
    gi_wp2
    exact HK.out
  case hstop =>
    rintro D c pre W _ hpre h _
    exact absurd hpre h
  case hbody =>
    rintro l pre ⟨xi, xv⟩ W ⟨⟨hp, hz⟩, hs⟩ hlt
    have HS := Aside0.mk hs
    have HP := Aside0.mk hp
    have HW := Aside0.mk hz
    have hm : (ons g.on g.xs n).length = cntF g.on n := ons_length _ _ _
    have hpl := hp.length_le
    have hmn := cntF_le g.on n
    have PS := Aside0.mk (pre_step (x := (xi, xv)) hp)
    have hF := Aside0.mk (fun (k : Nat) (hk : k < (ons g.on g.xs n).length) => ons_at hk)
    have hR := Aside0.mk (ons_rise g.on g.xs n)
    have hKL := Aside0.mk (fun (k : Nat) (y : Nat × Int) (h : (ons g.on g.xs n)[k]? = some y) => keys_get h)
    clear hp hz hs hlt
    have c0 : (_ : Option Value) = some (.pointer (some ⟨p, 0, none⟩)) := (blk_cell (HS.out.blk 3 rfl) 0).trans rfl
    have c1 : (_ : Option Value) = some (.slice A2 (cntF g.on n) c2) := (blk_cell (HS.out.blk 5 rfl) 0).trans rfl
    have c3' : (_ : Option Value) = some (.slice A3 (cntF g.on n) c3) := (blk_cell (HS.out.blk 7 rfl) 0).trans rfl
    have c4 : (_ : Option Value) = some (.int .i64 (pre.length : Int)) := (blk_cell (HS.out.blk 9 rfl) 0).trans rfl
    have c5 : (_ : Option Value) = some (.bool false) := (blk_cell (HS.out.blk 1 rfl) 0).trans rfl
    have f1 := blk_frozen (HS.out.blk 1 rfl) 0
    have f9 := blk_frozen (HS.out.blk 9 rfl) 0
    have BAD : Aside0 (¬ pre ++ [(xi, xv)] <+: ons g.on g.xs n → KeepsFrom w6.heap.size W (W.setCell ⟨w.heap.size + 1, 0, none⟩ (.bool false)) ∧ ¬ pre ++ [(xi, xv)] <+: ons g.on g.xs n) := ⟨fun h => ⟨keeps_only (Only.set (· = w.heap.size + 1) W (p := ⟨w.heap.size + 1, 0, none⟩) rfl _) (fun k hk => by
      rw [hk]
      exact HF.out false 0 _ (List.mem_of_getElem? (i := 1) rfl) _ (by simp [Blk])), h⟩⟩
    obtain ⟨k, hk⟩ : ∃ k, pre.length = k := ⟨_, rfl⟩
    rw [hk] at c4 PS hpl
    have HKK := Aside0.mk hk
    clear hk
    by_cases hend : k < cntF g.on n
    · obtain ⟨ad2, e2, d2'⟩ := own_addr (HS.out.own 4 rfl) (by rw [vals_len]; omega)
      obtain ⟨ad3, e3, d3'⟩ := own_addr (HS.out.own 6 rfl) (by rw [keys_len]; omega)
      cases e2
      cases e3
      have d2 := d2' k (by rw [vals_len]; omega)
      have d3 := d3' k (by rw [keys_len]; omega)
      have D3 := Aside0.mk d3'
      obtain ⟨t, ht, htn, hft⟩ := hF.out k (by omega)
      obtain ⟨k1, k2⟩ := hKL.out k _ ht
      dsimp only at k1 k2
      rw [k2] at d2
      rw [k1] at d3
      rw [ht] at PS
      clear k1 k2 d2' d3'
      by_cases hx1 : t = xi
      · by_cases hx2 : g.xs.getD t 0 = xv
        · subst hx1
          subst hx2
          have YES := Aside0.mk (PS.out.2 rfl)
          have CA := Aside0.mk (at_on (HS.out.arr 2 rfl).choose_spec htn hft)
          have NX : Aside0 (KeepsFrom w6.heap.size W (W.setCell ⟨b9, 0, none⟩ (.int .i64 ((k : Int) + 1))) ∧ Stay K W (W.setCell ⟨b9, 0, none⟩ (.int .i64 ((k : Int) + 1))) ∧ (pre ++ [(t, g.xs.getD t 0)] <+: ons g.on g.xs n ∧ w6.heap.size ≤ (W.setCell ⟨b9, 0, none⟩ (.int .i64 ((k : Int) + 1))).heap.size) ∧ Sep w (W.setCell ⟨b9, 0, none⟩ (.int .i64 ((k : Int) + 1))) (Objs w.heap.size stop p sb ob wb n g (some ⟨ad2, 0, none⟩) (some ⟨ad3, 0, none⟩) c2 c3 b3 b5 b7 b9 false ((pre ++ [(t, g.xs.getD t 0)]).length : Int))) := ⟨by
            have O := Only.set (· = b9) W (p := ⟨b9, 0, none⟩) rfl (.int .i64 ((k : Int) + 1))
            have hb9 := HF.out false 0 _ (List.mem_of_getElem? (i := 9) rfl) b9 (by simp [Blk])
            refine ⟨keeps_only O (fun q hq => by rw [hq]; exact hb9), stay_only O (fun q hq => ⟨Nat.lt_of_lt_of_le (HQ.out q hq) HW.out, ?_⟩), ⟨YES.out, Nat.le_trans HW.out O.size⟩, ?_⟩
            · intro e9
              rcases HK.out _ hq with e | e
              · have := ap_ne HS.out.ap (i := 8) (j := 9) rfl rfl (by decide) (b7 + 1) (by simp [Blk])
                exact this (by rw [← e, e9]; simp [Blk])
              · omega
            · rw [List.length_append, HKK.out]
              exact HS.out.turn_blk 9 rfl 0 (.int .i64 ((k : Int) + 1))⟩
          generalize g.xs.getD t 0 = x0 at *
          clear BAD PS YES hft
          by_cases hk0 : k = 0
          · subst hk0
            clear hR hKL hF D3
            gi_wp2_with (refine ⟨trivial, ?_⟩; gi_at_call 27; refine ((callsIn_wide.2 CA.out).inRound l).mono ?_; rintro e w1 ⟨rfl, rfl⟩)
            exact NX.out
          · obtain ⟨k', rfl⟩ : ∃ k', k = k' + 1 := ⟨k - 1, by omega⟩
            obtain ⟨t', ht', htn', hft'⟩ := hF.out k' (by omega)
            obtain ⟨k1, k2⟩ := hKL.out k' _ ht'
            dsimp only at k1
            have d4 := D3.out k' (by rw [keys_len]; omega)
            rw [k1] at d4
            have hlt : t' < t := by
              have := List.pairwise_iff_getElem.1 hR.out k' (k' + 1) (by omega) (by omega) (by omega)
              obtain ⟨a1, a2⟩ := List.getElem?_eq_some_iff.1 ht'
              obtain ⟨a3, a4⟩ := List.getElem?_eq_some_iff.1 ht
              rw [a2, a4] at this
              exact this
            have q5 : ¬ t ≤ t' := by omega
            clear hR hKL hF ht ht' hft' k1 k2 hk0 D3
            gi_wp2_with (refine ⟨trivial, ?_⟩; gi_at_call 27; refine ((callsIn_wide.2 CA.out).inRound l).mono ?_; rintro e w1 ⟨rfl, rfl⟩)
            exact NX.out
        · have q2 : (g.xs.getD t 0 != xv) = true := by rw [bne_iff_ne]; exact hx2
          have NP : ¬ pre ++ [(xi, xv)] <+: ons g.on g.xs n := fun h => hx2 (Prod.mk.inj (Option.some.inj (PS.out.1 h))).2
          subst hx1
          generalize g.xs.getD t 0 = x0 at *
          clear hF hR hKL hx2
          gi_wp2
          exact BAD.out NP
      · have q2 : ((t : Int) != (xi : Int)) = true := by rw [bne_iff_ne]; omega
        have NP : ¬ pre ++ [(xi, xv)] <+: ons g.on g.xs n := fun h => hx1 (Prod.mk.inj (Option.some.inj (PS.out.1 h))).1
        clear hF hR hKL hx1
        gi_wp2
        exact BAD.out NP
    · have NP : ¬ pre ++ [(xi, xv)] <+: ons g.on g.xs n := fun h => by
        have := h.length_le
        have := HKK.out
        simp only [List.length_append, List.length_cons, List.length_nil] at *
        omega
      have q1 : cntF g.on n ≤ k := by omega
      clear hF hR hKL
      gi_wp2
      exact BAD.out NP
  case hdone =>
    rintro D ys W hD rfl ⟨⟨hp, hz⟩, hs⟩ hK
    rw [ons_length] at hs
    have HS := Aside0.mk (sep_def hs (HF.out _ _) hD (Nat.le_trans HS.out.below.size (Nat.le_refl _)) hK)
    have HD := Aside0.mk hD
    clear hp hz hs hK hD hseq
    have c3' : (_ : Option Value) = some (.slice A3 (cntF g.on n) c3) := (blk_cell (HS.out.blk 7 rfl) 0).trans rfl
    have c4 : (_ : Option Value) = some (.int .i64 (cntF g.on n : Int)) := (blk_cell (HS.out.blk 9 rfl) 0).trans rfl
    go_wp2
    clear c3' c4
    go_loopg [16, 17] n (fun kq v16 v17 w' => ∃ i : Nat, v16 = .int .i64 (cntF g.on i : Int) ∧ v17 = .int .i64 i ∧ i ≤ n ∧ Aside0 (n - i ≤ kq) ∧ Aside0 (w6.heap.size ≤ w'.heap.size) ∧ Aside0 (Sep w w' (Objs w.heap.size stop p sb ob wb n g A2 A3 c2 c3 b3 b5 b7 b9 false (cntF g.on n : Int) ++ [Def D])))
    case atStart => exact ⟨0, rfl, rfl, by omega, ⟨by omega⟩, ⟨by have := blk_lt (show W.heap[D]? = _ from HS.out.get 10 rfl); have := HD.out; omega⟩, HS⟩
    case round =>
      clear HS
      obtain ⟨i, rfl, rfl, hi, HQ2, HZ2, HS⟩ := hrel
      have c0 : (_ : Option Value) = some (.pointer (some ⟨p, 0, none⟩)) := (blk_cell (HS.out.blk 3 rfl) 0).trans rfl
      have hci := cntF_le g.on i
      by_cases hlt : i < n
      · obtain ⟨gk, rfl⟩ : ∃ m, gk = m + 1 := ⟨gk - 1, by have := HQ2.out; omega⟩
        have C := at_gap (HS.out.arr 2 rfl) i
        rw [show atB n g (i : Int) = g.on i by unfold atB inR; rw [decide_eq_true (by omega), Int.toNat_natCast]; rfl] at C
        have C := Aside0.mk C
        have CN := Aside0.mk (show cntF g.on (i + 1) = cntF g.on i + (if g.on i then 1 else 0) from rfl)
        generalize cntF g.on i = ci at *
        cases hf : g.on i
        · rw [hf] at C CN
          clear hf
          go_wp2_with fail
          refine C.out.mono ?_
          clear C
          rintro e w7 ⟨rfl, rfl⟩
          go_wp2
          go_roundg gk
          case measure => omega
          case rel => exact ⟨i + 1, by rw [CN.out]; rfl, by go_num, by omega, ⟨by have := HQ2.out; omega⟩, HZ2, HS⟩
        · rw [hf] at C CN
          clear hf
          go_wp2_with fail
          refine C.out.mono ?_
          clear C
          rintro e w7 ⟨rfl, rfl⟩
          go_wp2
          go_roundg gk
          case measure => omega
          case rel => exact ⟨i + 1, by rw [CN.out]; go_num, by go_num, by omega, ⟨by have := HQ2.out; omega⟩, HZ2, HS⟩
      · obtain rfl : n = i := by omega
        clear hlt hi HQ2 c0
        have hits : Its wr (some ⟨p, 0, none⟩) (ons g.on g.xs n) := .inr ⟨p, sb, ob, wb, n, g, rfl, HS.out.arr 2 rfl, Kd.C_below HT.out HS.out.below, rfl⟩
        have HITS := Aside0.mk hits
        clear hits
        have HS0 := HS
        replace HS := Aside0.mk (HS.out.new_blk #[.int .i64 0] 3)
        have c0 : (_ : Option Value) = some (.pointer (some ⟨p, 0, none⟩)) := (blk_cell (HS.out.blk 3 rfl) 0).trans rfl
        go_wp2_with fail
        refine (all_any _ _).mono ?_
        rintro e w8 ⟨rfl, rfl⟩
        clear c0
        replace HS := Aside0.mk (HS.out.new_blk #[.pointer (some ⟨p, 0, none⟩)] 24)
        have hbb := below_alloc (below_alloc (Below.refl wr.heap.size wr) (.cells #[.int .i64 0] 3)) (.cells #[.pointer (some ⟨p, 0, none⟩)] 24)
        simp only [World.size_alloc] at HS ⊢
        have hz8 : wr.heap.size + 1 + 1 = ((wr.alloc (.cells #[.int .i64 0] 3)).alloc (.cells #[.pointer (some ⟨p, 0, none⟩)] 24)).heap.size := by simp
        generalize (wr.alloc (.cells #[.int .i64 0] 3)).alloc (.cells #[.pointer (some ⟨p, 0, none⟩)] 24) = w8 at *
        obtain ⟨K2, N2, hN2, hL2, hK2, hseq2⟩ := its_seq HITS.out hbb (HS.out.blk 12 rfl)
        have HK2 := Aside0.mk hK2
        have HQ2 : Aside0 (∀ k ∈ K2, k < w8.heap.size) := ⟨fun k hk => by
          rcases hK2 k hk with e | e
          · rw [e]; exact (HS.out.lo _ (List.mem_of_getElem? (i := 12) rfl) (wr.heap.size + 1) (by simp [Blk])).2
          · omega⟩
        have HZ8 := Aside0.mk hz8
        clear hK2 hbb HITS hz8
        obtain ⟨bc, hbc⟩ : ∃ b, wr.heap.size = b := ⟨_, rfl⟩
        simp only [hbc] at HS HK2 HZ8 hseq2 ⊢
        clear hbc
        replace HS : Aside0 (Sep w w8 (Objs2 w.heap.size stop p sb ob wb n g A2 A3 c2 c3 b3 b5 b7 b9 D bc false 0)) := HS
        have HF2 : Aside0 (∀ (res : Bool) (k : Int), ∀ o ∈ Objs2 w.heap.size stop p sb ob wb n g A2 A3 c2 c3 b3 b5 b7 b9 D bc res k, ∀ q ∈ o.F, q < w8.heap.size) := ⟨fun res k => foot_of (l := Objs2 w.heap.size stop p sb ob wb n g A2 A3 c2 c3 b3 b5 b7 b9 D bc false 0) rfl fun o ho q hq => (HS.out.lo o ho q hq).2⟩
        have HL2 := Aside0.mk hL2
        have hN3 := hN2
        clear hL2
        go_wp2
        apply wpIn_wide.1
        apply wpIn_rangeFunc_ownG (F := Fence.wide) (n := 3) rfl (by omega) (gf := 57) (lb := #[.pointer (some ⟨bc + 1, 0, none⟩)]) rfl trivial (enters_of Tryd.func57 (by kernel_rfl) rfl)
          (hseq2 2 (by omega)) Stay.trans (fun W l o o' a b _ _ => stay_putObj HQ2.out W l o o' a b) (Below.refl _ _) (fun _ => rfl)
          (fun pre W => ((∀ j : Nat, 1 ≤ j → j ≤ pre.length → (j : Int) ≠ stop) ∧ w8.heap.size ≤ W.heap.size) ∧ Sep w W (Objs2 w.heap.size stop p sb ob wb n g A2 A3 c2 c3 b3 b5 b7 b9 D bc false (pre.length : Int)))
          (fun c pre W => (c = .exit 4 ∧ stop = (pre.length : Int)) ∧ Sep w W (Objs2 w.heap.size stop p sb ob wb n g A2 A3 c2 c3 b3 b5 b7 b9 D bc false (pre.length : Int)))
          (fun pre W W' row h hg hr => ⟨⟨h.1.1, Nat.le_trans h.1.2 hg.size⟩, sep_grow h.2 (HF2.out _ _) hg (fun r e => (hr r e).1) HS.out.below.size⟩)
          (fun _ _ _ _ _ hs hg hr => ⟨hs.1, sep_grow hs.2 (HF2.out _ _) hg (fun r e => (hr r e).1) HS.out.below.size⟩) ⟨⟨fun j h1 h2 => by simp at h2; omega, Nat.le_refl _⟩, HS.out⟩
        case hassign =>
          intro l x W K hK
          have HK := Aside0.mk hK
          clear hK
          gi_wp2
          exact HK.out
        case hbody =>
          rintro l pre ⟨xi, xv⟩ W ⟨⟨hp, hz⟩, hs⟩ hlt
          have HS := Aside0.mk hs
          have HP := Aside0.mk hp
          have HW := Aside0.mk hz
          clear hp hz hs
          have c4 : (_ : Option Value) = some (.int .i64 (pre.length : Int)) := (blk_cell (HS.out.blk 11 rfl) 0).trans rfl
          have c6 : (_ : Option Value) = some (.int .i64 stop) := (blk_cell (HS.out.blk 0 rfl) 0).trans rfl
          have f9 := blk_frozen (HS.out.blk 11 rfl) 0
          have NX : Aside0 (KeepsFrom w8.heap.size W (W.setCell ⟨bc, 0, none⟩ (.int .i64 ((pre.length : Int) + 1))) ∧ Stay K2 W (W.setCell ⟨bc, 0, none⟩ (.int .i64 ((pre.length : Int) + 1))) ∧ w8.heap.size ≤ (W.setCell ⟨bc, 0, none⟩ (.int .i64 ((pre.length : Int) + 1))).heap.size ∧ Sep w (W.setCell ⟨bc, 0, none⟩ (.int .i64 ((pre.length : Int) + 1))) (Objs2 w.heap.size stop p sb ob wb n g A2 A3 c2 c3 b3 b5 b7 b9 D bc false ((pre ++ [(xi, xv)]).length : Int))) := ⟨by
            have O := Only.set (· = bc) W (p := ⟨bc, 0, none⟩) rfl (.int .i64 ((pre.length : Int) + 1))
            have hb9 := HF2.out false 0 _ (List.mem_of_getElem? (i := 11) rfl) bc (by simp [Blk])
            refine ⟨keeps_only O (fun q hq => by rw [hq]; exact hb9), stay_only O (fun q hq => ⟨Nat.lt_of_lt_of_le (HQ2.out q hq) HW.out, ?_⟩), Nat.le_trans HW.out O.size, ?_⟩
            · intro e9
              rcases HK2.out _ hq with e | e <;> omega
            · rw [List.length_append]
              exact HS.out.turn_blk 11 rfl 0 (.int .i64 ((pre.length : Int) + 1))⟩
          have c7 : (_ : Option Value) = some (.int .i64 stop) := (blk_cell ((HS.out.turn_blk 11 rfl 0 (.int .i64 ((pre.length : Int) + 1))).blk 0 rfl) 0).trans rfl
          by_cases hst : (pre.length : Int) + 1 = stop
          · have q1 : ((pre.length : Int) + 1 == stop) = true := beq_iff_eq.2 hst
            have ST := Aside0.mk hst
            clear hst
            gi_wp2
            exact ⟨NX.out.1, ⟨rfl, by rw [← ST.out]; simp⟩, NX.out.2.2.2⟩
          · have q1 : ((pre.length : Int) + 1 == stop) = false := beq_eq_false_iff_ne.2 hst
            have ST := Aside0.mk hst
            clear hst
            gi_wp2
            refine ⟨NX.out.1, NX.out.2.1, ⟨fun j h1 h2 => ?_, NX.out.2.2.1⟩, NX.out.2.2.2⟩
            rw [List.length_append, List.length_singleton] at h2
            by_cases e : j ≤ pre.length
            · exact HP.out j h1 e
            · intro hj
              exact ST.out (by rw [← hj]; omega)
        case hstop =>
          rintro E c pre W hE hpre ⟨⟨rfl, hst⟩, hs⟩ hK
          have hpl := HL2.out
          have hp2 := hpre.length_le
          obtain ⟨cm, hcm⟩ : ∃ cm, pre.length = cm := ⟨_, rfl⟩
          rw [hcm] at hs hst hp2
          subst hst
          have q1 : ((cm : Int) == (cm : Int)) = true := beq_self_eq_true _
          clear hcm hpre
          apply wpIn_wide.2
          have HS := Aside0.mk (sep_def hs (HF2.out _ _) hE HS.out.below.size hK)
          have HE := Aside0.mk (show D ≠ E by have := HF2.out false 0 _ (List.mem_of_getElem? (i := 10) rfl) D (by simp [Def]); omega)
          clear hs hK hE hseq2
          have c4 : (_ : Option Value) = some (.int .i64 (cntF g.on n : Int)) := (blk_cell (HS.out.blk 9 rfl) 0).trans rfl
          have c5 : (_ : Option Value) = some (.int .i64 _) := (blk_cell (HS.out.blk 11 rfl) 0).trans rfl
          have c6 : (_ : Option Value) = some (.int .i64 _) := (blk_cell (HS.out.blk 0 rfl) 0).trans rfl
          have C := Aside0.mk (awake_any _ (Kd.C_below HT.out HS.out.below))
          go_wp2_with fail
          refine C.out.mono ?_
          clear C c4 c5 c6
          rintro e w30 ⟨rfl, hw⟩
          replace HS := Aside0.mk (HS.out.step hw)
          clear hw
          have f0 := blk_frozen (HS.out.blk 1 rfl) 0
          have c0 : (_ : Option Value) = some (.bool false) := (blk_cell (HS.out.blk 1 rfl) 0).trans rfl
          go_wp2
          replace HS := Aside0.mk (HS.out.turn_blk 1 rfl 0 (.bool true))
          have HS2 := (sep_shut (sep_shut HS.out 13 rfl) 10 rfl)
          (try simp only [Exit.inBlock, Exit.then])
          refine leave2 HE.out (HS.out.get 10 rfl) (HS.out.get 13 rfl) (results_cell (t := 6) (ty := 4) (b := w.heap.size + 1) rfl rfl ((blk_cell (HS2.blk 1 rfl) 0).trans rfl) (run_isAgg_plain Tryd.underlying4 rfl _)) ⟨rfl, HS2.below⟩
        case hdone =>
          rintro E ys W hE rfl ⟨⟨hp, hz⟩, hs⟩ hK
          rw [ons_length] at hs
          clear hp hz
          by_cases hst : (cntF g.on n : Int) = stop
          · have q1 : ((cntF g.on n : Int) == stop) = true := beq_iff_eq.2 hst
            clear hst
            have HS := Aside0.mk (sep_def hs (HF2.out _ _) hE HS.out.below.size hK)
            have HE := Aside0.mk (show D ≠ E by have := HF2.out false 0 _ (List.mem_of_getElem? (i := 10) rfl) D (by simp [Def]); omega)
            clear hs hK hE hseq2
            have c4 : (_ : Option Value) = some (.int .i64 (cntF g.on n : Int)) := (blk_cell (HS.out.blk 9 rfl) 0).trans rfl
            have c5 : (_ : Option Value) = some (.int .i64 _) := (blk_cell (HS.out.blk 11 rfl) 0).trans rfl
            have c6 : (_ : Option Value) = some (.int .i64 _) := (blk_cell (HS.out.blk 0 rfl) 0).trans rfl
            have C := Aside0.mk (awake_any _ (Kd.C_below HT.out HS.out.below))
            go_wp2_with fail
            refine C.out.mono ?_
            clear C c4 c5 c6
            rintro e w30 ⟨rfl, hw⟩
            replace HS := Aside0.mk (HS.out.step hw)
            clear hw
            have f0 := blk_frozen (HS.out.blk 1 rfl) 0
            have c0 : (_ : Option Value) = some (.bool false) := (blk_cell (HS.out.blk 1 rfl) 0).trans rfl
            go_wp2
            replace HS := Aside0.mk (HS.out.turn_blk 1 rfl 0 (.bool true))
            have HS2 := (sep_shut (sep_shut HS.out 13 rfl) 10 rfl)
            (try simp only [Exit.inBlock, Exit.then])
            refine leave2 HE.out (HS.out.get 10 rfl) (HS.out.get 13 rfl) (results_cell (t := 6) (ty := 4) (b := w.heap.size + 1) rfl rfl ((blk_cell (HS2.blk 1 rfl) 0).trans rfl) (run_isAgg_plain Tryd.underlying4 rfl _)) ⟨rfl, HS2.below⟩
          · have q1 : ((cntF g.on n : Int) == stop) = false := beq_eq_false_iff_ne.2 hst
            clear hst
            have HS := Aside0.mk (sep_def hs (HF2.out _ _) hE HS.out.below.size hK)
            have HE := Aside0.mk (show D ≠ E by have := HF2.out false 0 _ (List.mem_of_getElem? (i := 10) rfl) D (by simp [Def]); omega)
            clear hs hK hE hseq2
            have c4 : (_ : Option Value) = some (.int .i64 (cntF g.on n : Int)) := (blk_cell (HS.out.blk 9 rfl) 0).trans rfl
            have c5 : (_ : Option Value) = some (.int .i64 _) := (blk_cell (HS.out.blk 11 rfl) 0).trans rfl
            have c6 : (_ : Option Value) = some (.int .i64 _) := (blk_cell (HS.out.blk 0 rfl) 0).trans rfl
            have C := Aside0.mk (awake_any _ (Kd.C_below HT.out HS.out.below))
            go_wp2_with fail
            refine C.out.mono ?_
            clear C c4 c5 c6
            rintro e w30 ⟨rfl, hw⟩
            replace HS := Aside0.mk (HS.out.step hw)
            clear hw
            have f0 := blk_frozen (HS.out.blk 1 rfl) 0
            have c0 : (_ : Option Value) = some (.bool false) := (blk_cell (HS.out.blk 1 rfl) 0).trans rfl
            go_wp2
            replace HS := Aside0.mk (HS.out.turn_blk 1 rfl 0 (.bool true))
            have HS2 := (sep_shut (sep_shut HS.out 13 rfl) 10 rfl)
            (try simp only [Exit.inBlock, Exit.then])
            refine leave2 HE.out (HS.out.get 10 rfl) (HS.out.get 13 rfl) (results_cell (t := 6) (ty := 4) (b := w.heap.size + 1) rfl rfl ((blk_cell (HS2.blk 1 rfl) 0).trans rfl) (run_isAgg_plain Tryd.underlying4 rfl _)) ⟨rfl, HS2.below⟩
theorem law (n : Int) (wn : (Lit.int .i64 n).wf = true) (A : Option Addr) (c : Nat) (l : List Cal) {W0 : World} (g : Kd.C kAct W0 A l.length l) (a : Int) (wa : (Lit.int .i64 a).wf = true) (W : World) (hT : Tb W) (hW : W = W0 := by rfl) :
    Calls Tryd.prog 4 #[.int .i64 n, .slice A l.length c, .int .i64 a] W fun e w' => e = .returned (.bool true) ∧ Below W.heap.size W w' := by
  subst hW
  by_cases h : n < 1 ∨ 200 < n ∨ 100 < l.length
  · exact goes_no n a A c l W hT h
  · obtain ⟨m, rfl⟩ := Int.eq_ofNat_of_zero_le (show 0 ≤ n by omega)
    exact goes_yes m a A c l W hT g (by omega) (by omega) (by omega)
end Go.Proofs.YtbjkncgpoengaaaDoor.R3
