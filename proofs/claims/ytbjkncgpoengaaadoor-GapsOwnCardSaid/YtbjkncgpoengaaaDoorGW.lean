/- The law GapsOwn walked: it returns true, whatever the number of slots, the calls and where the clone is made. -/
import Derived.Test.YtbjkncgpoengaaaDoorGV
namespace Go.Proofs.YtbjkncgpoengaaaDoor.GW
open Go.RowKit Go.Shelf Go.Proofs.YtbjkncgpoengaaaDoorW.PrintWords Go.Proofs.YtbjkncgpoengaaaDoorW.PrintLast Go.Proofs.YtbjkncgpoengaaaDoorW.PrintMore G1 G0 Q1 G2 G3 G4 G5 G6 G7 G8 G9 G10 G11 G12 S1 F4 F7 RF CL GV
set_option linter.unusedVariables false
set_option linter.unusedSimpArgs false
attribute [local go_sem] Oper.semAt_some
set_option maxRecDepth 100000 in
set_option maxHeartbeats 4000000 in
theorem own_no (n k : Int) (A : Option Addr) (c : Nat) (l : List Cal) (w : World) (hT : Tb w) (h : n < 1 ∨ 200 < n ∨ 60 < l.length ∨ k < 0 ∨ (l.length : Int) < k) :
    Calls Tryd.prog 11 #[.int .i64 n, .slice A l.length c, .int .i64 k] w fun e w' => e = .returned (.bool true) ∧ Below w.heap.size w w' := by
  have HH := Aside0.mk h
  clear h
  have HS := Aside0.mk ((Sep.nil w).new_blk #[.bool false] 4)
  have HT := Aside0.mk hT
  clear hT
  refine callsIn_wide.1 (callsIn_of_wp_marks (n := 3) Tryd.func11 rfl trivial ?_ rfl)
  refine wpIn_wide.2 ?_
  simp only [Tryd.ntmps11, List.size_toArray, List.length_cons, List.length_nil, Nat.reduceAdd, Nat.reduceSub, Array.replicate_succ, Array.replicate_zero, List.push_toArray, List.append_toArray, List.nil_append, List.cons_append]
  go_wp2_with fail
  refine (take_nil 0 _).mono ?_
  rintro e w1 ⟨rfl, hb⟩
  replace HS := Aside0.mk (HS.out.step hb)
  clear hb
  go_wp2_with fail
  refine (at_nil 0 _).mono ?_
  rintro e w8 ⟨rfl, rfl⟩
  go_wp2_with fail
  refine (count_nil 0 0 _).mono ?_
  rintro e w8 ⟨rfl, rfl⟩
  go_wp2_with fail
  refine (cap_nil _).mono ?_
  rintro e w8 ⟨rfl, rfl⟩
  go_wp2_with fail
  refine (slen_nil _).mono ?_
  rintro e w8 ⟨rfl, rfl⟩
  go_wp2_with fail
  refine (put_nil 0 1 _).mono ?_
  rintro e w2 ⟨rfl, hb⟩
  replace HS := Aside0.mk (HS.out.step hb)
  clear hb
  go_wp2_with fail
  refine (move_nil 0 1 _).mono ?_
  rintro e w3 ⟨rfl, hb⟩
  replace HS := Aside0.mk (HS.out.step hb)
  clear hb
  go_wp2_with fail
  refine (next_nil 0 _).mono ?_
  rintro e w8 ⟨rfl, rfl⟩
  go_wp2_with fail
  refine (sprev_nil 0 _).mono ?_
  rintro e w8 ⟨rfl, rfl⟩
  go_wp2_with fail
  refine (items_nil _).mono ?_
  rintro e w4 ⟨Aw4, cw4, rfl, hb⟩
  replace HS := Aside0.mk (HS.out.step hb)
  clear hb
  go_wp2_with fail
  refine (places_nil _).mono ?_
  rintro e w5 ⟨Aw5, cw5, rfl, hb⟩
  replace HS := Aside0.mk (HS.out.step hb)
  clear hb
  go_wp2_with fail
  refine (sclone_nil _).mono ?_
  rintro e w8 ⟨rfl, rfl⟩
  go_wp2_with fail
  refine (all_any _ _).mono ?_
  rintro e w6 ⟨rfl, hw6⟩
  replace HS : Aside0 (Sep w w6 [Blk w.heap.size #[.bool false] 4]) := ⟨by rw [← hw6]; exact HS.out.step (below_alloc (Below.refl _ _) (.cells #[.pointer none] 24))⟩
  clear hw6
  have hfn := fun b w => run_fn_nil b w
  go_wp2_with fail
  clear hfn
  refine (all_any _ _).mono ?_
  rintro e w7 ⟨rfl, hw7⟩
  replace HS : Aside0 (Sep w w7 [Blk w.heap.size #[.bool false] 4]) := ⟨by rw [← hw7]; exact HS.out.step (below_alloc (Below.refl _ _) (.cells #[.pointer none] 24))⟩
  have HB := Aside0.mk (show w7.heap[w6.heap.size]? = some (.cells #[.pointer none] 24 (0, 0)) by rw [← hw7]; exact blk_new _ _)
  have HF := Aside0.mk (fun o ho q hq => (HS.out.lo o ho q hq).2)
  clear hw7
  go_wp2
  apply wpIn_wide.1
  apply wpIn_rangeFunc_ownG (F := Fence.wide) (n := 3) rfl (by omega) (gf := 57) (lb := #[.pointer (some ⟨w6.heap.size, 0, none⟩)]) rfl trivial (enters_of Tryd.func57 (by kernel_rfl) rfl)
    (nil_stops 2 (by omega) w6.heap.size HB.out) (fun _ _ => trivial) (fun W l o o' a b _ _ => trivial) (Below.refl _ _) (fun _ => rfl)
    (fun pre W => Sep w W [Blk w.heap.size #[.bool false] 4]) (fun _ _ _ => False)
    (fun pre W W' row h hg hr => sep_grow h HF.out hg (fun r e => (hr r e).1) HS.out.below.size)
    (fun _ _ _ _ _ hs _ _ => hs) HS.out
  case hassign =>
    intro l x W K hK
    have HK := Aside0.mk hK
    clear hK
    gi_wp2
    exact HK.out
  case hstop =>
    rintro D c pre W _ hpre h _
    exact h.elim
  case hbody =>
    rintro l pre x W h hlt
    exact absurd hlt (Nat.not_lt_zero _)
  case hdone =>
    rintro D ys W hD rfl hs hK
    replace HS := Aside0.mk (sep_def hs HF.out hD HS.out.below.size hK)
    clear hs HF hD hK HB
    by_cases h1 : n < 1
    · have C := Aside0.mk (awake_any _ (Kd.C_below HT.out HS.out.below))
      go_wp2_with fail
      refine C.out.mono ?_
      clear C
      rintro e w30 ⟨rfl, hw⟩
      replace HS := Aside0.mk (HS.out.step hw)
      clear hw
      have f0 := blk_frozen (HS.out.blk 0 rfl) 0
      have c0 : (_ : Option Value) = some (.bool false) := (blk_cell (HS.out.blk 0 rfl) 0).trans rfl
      go_wp2
      replace HS := Aside0.mk (HS.out.turn_blk 0 rfl 0 (.bool true))
      have HS2 := sep_shut HS.out 1 rfl
      (try simp only [Exit.inBlock, Exit.then])
      refine leave1 (HS.out.get 1 rfl) (results_cell (t := 6) (ty := 4) (b := w.heap.size) rfl rfl ((blk_cell (HS2.blk 0 rfl) 0).trans rfl) (run_isAgg_plain Tryd.underlying4 rfl _)) ⟨rfl, HS2.below⟩
    · by_cases h2 : 200 < n
      · have C := Aside0.mk (awake_any _ (Kd.C_below HT.out HS.out.below))
        go_wp2_with fail
        refine C.out.mono ?_
        clear C
        rintro e w30 ⟨rfl, hw⟩
        replace HS := Aside0.mk (HS.out.step hw)
        clear hw
        have f0 := blk_frozen (HS.out.blk 0 rfl) 0
        have c0 : (_ : Option Value) = some (.bool false) := (blk_cell (HS.out.blk 0 rfl) 0).trans rfl
        go_wp2
        replace HS := Aside0.mk (HS.out.turn_blk 0 rfl 0 (.bool true))
        have HS2 := sep_shut HS.out 1 rfl
        (try simp only [Exit.inBlock, Exit.then])
        refine leave1 (HS.out.get 1 rfl) (results_cell (t := 6) (ty := 4) (b := w.heap.size) rfl rfl ((blk_cell (HS2.blk 0 rfl) 0).trans rfl) (run_isAgg_plain Tryd.underlying4 rfl _)) ⟨rfl, HS2.below⟩
      · by_cases h3 : 60 < l.length
        · have C := Aside0.mk (awake_any _ (Kd.C_below HT.out HS.out.below))
          go_wp2_with fail
          refine C.out.mono ?_
          clear C
          rintro e w30 ⟨rfl, hw⟩
          replace HS := Aside0.mk (HS.out.step hw)
          clear hw
          have f0 := blk_frozen (HS.out.blk 0 rfl) 0
          have c0 : (_ : Option Value) = some (.bool false) := (blk_cell (HS.out.blk 0 rfl) 0).trans rfl
          go_wp2
          replace HS := Aside0.mk (HS.out.turn_blk 0 rfl 0 (.bool true))
          have HS2 := sep_shut HS.out 1 rfl
          (try simp only [Exit.inBlock, Exit.then])
          refine leave1 (HS.out.get 1 rfl) (results_cell (t := 6) (ty := 4) (b := w.heap.size) rfl rfl ((blk_cell (HS2.blk 0 rfl) 0).trans rfl) (run_isAgg_plain Tryd.underlying4 rfl _)) ⟨rfl, HS2.below⟩
        · by_cases h4 : k < 0
          · have C := Aside0.mk (awake_any _ (Kd.C_below HT.out HS.out.below))
            go_wp2_with fail
            refine C.out.mono ?_
            clear C
            rintro e w30 ⟨rfl, hw⟩
            replace HS := Aside0.mk (HS.out.step hw)
            clear hw
            have f0 := blk_frozen (HS.out.blk 0 rfl) 0
            have c0 : (_ : Option Value) = some (.bool false) := (blk_cell (HS.out.blk 0 rfl) 0).trans rfl
            go_wp2
            replace HS := Aside0.mk (HS.out.turn_blk 0 rfl 0 (.bool true))
            have HS2 := sep_shut HS.out 1 rfl
            (try simp only [Exit.inBlock, Exit.then])
            refine leave1 (HS.out.get 1 rfl) (results_cell (t := 6) (ty := 4) (b := w.heap.size) rfl rfl ((blk_cell (HS2.blk 0 rfl) 0).trans rfl) (run_isAgg_plain Tryd.underlying4 rfl _)) ⟨rfl, HS2.below⟩
          · have h5 : (l.length : Int) < k := by have := HH.out; omega
            have C := Aside0.mk (awake_any _ (Kd.C_below HT.out HS.out.below))
            go_wp2_with fail
            refine C.out.mono ?_
            clear C
            rintro e w30 ⟨rfl, hw⟩
            replace HS := Aside0.mk (HS.out.step hw)
            clear hw
            have f0 := blk_frozen (HS.out.blk 0 rfl) 0
            have c0 : (_ : Option Value) = some (.bool false) := (blk_cell (HS.out.blk 0 rfl) 0).trans rfl
            go_wp2
            replace HS := Aside0.mk (HS.out.turn_blk 0 rfl 0 (.bool true))
            have HS2 := sep_shut HS.out 1 rfl
            (try simp only [Exit.inBlock, Exit.then])
            refine leave1 (HS.out.get 1 rfl) (results_cell (t := 6) (ty := 4) (b := w.heap.size) rfl rfl ((blk_cell (HS2.blk 0 rfl) 0).trans rfl) (run_isAgg_plain Tryd.underlying4 rfl _)) ⟨rfl, HS2.below⟩
set_option maxRecDepth 100000 in
set_option maxHeartbeats 8000000 in
theorem own_yes (n k : Nat) (A : Option Addr) (c : Nat) (l : List Cal) (w : World) (hT : Tb w) (hr : Kd.C kAct w A l.length l) (hc : l.length ≤ c) (h1 : 1 ≤ n) (h2 : n ≤ 200) (h3 : l.length ≤ 60) (hk : k ≤ l.length) :
    Calls Tryd.prog 11 #[.int .i64 n, .slice A l.length c, .int .i64 k] w fun e w' => e = .returned (.bool true) ∧ Below w.heap.size w w' := by
  have HR := Aside0.mk hr
  clear hr
  have HS := Aside0.mk ((Sep.nil w).new_blk #[.bool false] 4)
  have HT := Aside0.mk hT
  clear hT
  refine callsIn_wide.1 (callsIn_of_wp_marks (n := 3) Tryd.func11 rfl trivial ?_ rfl)
  refine wpIn_wide.2 ?_
  simp only [Tryd.ntmps11, List.size_toArray, List.length_cons, List.length_nil, Nat.reduceAdd, Nat.reduceSub, Array.replicate_succ, Array.replicate_zero, List.push_toArray, List.append_toArray, List.nil_append, List.cons_append]
  go_wp2_with fail
  refine (take_nil 0 _).mono ?_
  rintro e w1 ⟨rfl, hb⟩
  replace HS := Aside0.mk (HS.out.step hb)
  clear hb
  go_wp2_with fail
  refine (at_nil 0 _).mono ?_
  rintro e w8 ⟨rfl, rfl⟩
  go_wp2_with fail
  refine (count_nil 0 0 _).mono ?_
  rintro e w8 ⟨rfl, rfl⟩
  go_wp2_with fail
  refine (cap_nil _).mono ?_
  rintro e w8 ⟨rfl, rfl⟩
  go_wp2_with fail
  refine (slen_nil _).mono ?_
  rintro e w8 ⟨rfl, rfl⟩
  go_wp2_with fail
  refine (put_nil 0 1 _).mono ?_
  rintro e w2 ⟨rfl, hb⟩
  replace HS := Aside0.mk (HS.out.step hb)
  clear hb
  go_wp2_with fail
  refine (move_nil 0 1 _).mono ?_
  rintro e w3 ⟨rfl, hb⟩
  replace HS := Aside0.mk (HS.out.step hb)
  clear hb
  go_wp2_with fail
  refine (next_nil 0 _).mono ?_
  rintro e w8 ⟨rfl, rfl⟩
  go_wp2_with fail
  refine (sprev_nil 0 _).mono ?_
  rintro e w8 ⟨rfl, rfl⟩
  go_wp2_with fail
  refine (items_nil _).mono ?_
  rintro e w4 ⟨Aw4, cw4, rfl, hb⟩
  replace HS := Aside0.mk (HS.out.step hb)
  clear hb
  go_wp2_with fail
  refine (places_nil _).mono ?_
  rintro e w5 ⟨Aw5, cw5, rfl, hb⟩
  replace HS := Aside0.mk (HS.out.step hb)
  clear hb
  go_wp2_with fail
  refine (sclone_nil _).mono ?_
  rintro e w8 ⟨rfl, rfl⟩
  go_wp2_with fail
  refine (all_any _ _).mono ?_
  rintro e w6 ⟨rfl, hw6⟩
  replace HS : Aside0 (Sep w w6 [Blk w.heap.size #[.bool false] 4]) := ⟨by rw [← hw6]; exact HS.out.step (below_alloc (Below.refl _ _) (.cells #[.pointer none] 24))⟩
  clear hw6
  have hfn := fun b w => run_fn_nil b w
  go_wp2_with fail
  clear hfn
  refine (all_any _ _).mono ?_
  rintro e w7 ⟨rfl, hw7⟩
  replace HS : Aside0 (Sep w w7 [Blk w.heap.size #[.bool false] 4]) := ⟨by rw [← hw7]; exact HS.out.step (below_alloc (Below.refl _ _) (.cells #[.pointer none] 24))⟩
  have HB := Aside0.mk (show w7.heap[w6.heap.size]? = some (.cells #[.pointer none] 24 (0, 0)) by rw [← hw7]; exact blk_new _ _)
  have HF := Aside0.mk (fun o ho q hq => (HS.out.lo o ho q hq).2)
  clear hw7
  go_wp2
  apply wpIn_wide.1
  apply wpIn_rangeFunc_ownG (F := Fence.wide) (n := 3) rfl (by omega) (gf := 57) (lb := #[.pointer (some ⟨w6.heap.size, 0, none⟩)]) rfl trivial (enters_of Tryd.func57 (by kernel_rfl) rfl)
    (nil_stops 2 (by omega) w6.heap.size HB.out) (fun _ _ => trivial) (fun W l o o' a b _ _ => trivial) (Below.refl _ _) (fun _ => rfl)
    (fun pre W => Sep w W [Blk w.heap.size #[.bool false] 4]) (fun _ _ _ => False)
    (fun pre W W' row h hg hr => sep_grow h HF.out hg (fun r e => (hr r e).1) HS.out.below.size)
    (fun _ _ _ _ _ hs _ _ => hs) HS.out
  case hassign =>
    intro l x W K hK
    have HK := Aside0.mk hK
    clear hK
    gi_wp2
    exact HK.out
  case hstop =>
    rintro D c pre W _ hpre h _
    exact h.elim
  case hbody =>
    rintro l pre x W h hlt
    exact absurd hlt (Nat.not_lt_zero _)
  case hdone =>
    rintro D ys W hD rfl hs hK
    replace HS := Aside0.mk (sep_def hs HF.out hD HS.out.below.size hK)
    clear hs HF hD hK HB
    have e1 : (l.take k).length = k := by rw [List.length_take]; omega
    have HE := Aside0.mk e1
    have HE2 : Aside0 ((l.take k).length ≤ 1000000) := ⟨by omega⟩
    clear e1
    have C := made_yes (c := c) h1 (by omega) (Kd.C_take (Kd.C_below HR.out HS.out.below) hk) HE2.out
    rw [HE.out] at C
    have C := Aside0.mk C
    go_wp2_with fail
    refine C.out.mono ?_
    clear C
    rintro e u1 ⟨p1, sb1, ob1, wb1, rfl, hF, hb⟩
    replace HS := Aside0.mk (HS.out.new_arr hb hF.2 hF.1)
    clear hF hb
    have C := made_yes (c := c) h1 (by omega) (Kd.C_take (Kd.C_below HR.out HS.out.below) hk) HE2.out
    rw [HE.out] at C
    have C := Aside0.mk C
    go_wp2_with fail
    refine C.out.mono ?_
    clear C
    rintro e u2 ⟨p2, sb2, ob2, wb2, rfl, hF, hb⟩
    replace HS := Aside0.mk (HS.out.new_arr hb hF.2 hF.1)
    clear hF hb
    have C := made_yes (c := c) h1 (by omega) (Kd.C_below HR.out HS.out.below) (by omega)
    skip
    have C := Aside0.mk C
    go_wp2_with fail
    refine C.out.mono ?_
    clear C
    rintro e u3 ⟨p3, sb3, ob3, wb3, rfl, hF, hb⟩
    replace HS := Aside0.mk (HS.out.new_arr hb hF.2 hF.1)
    clear hF hb
    have hgl : n ≤ (runL n (l.take k)).xs.length := (HS.out.arr 2 rfl).choose_spec.len
    have C := Aside0.mk (sclone_any (HS.out.arr 2 rfl))
    go_wp2_with fail
    refine C.out.mono ?_
    clear C
    rintro e u4 ⟨p4, sb4, ob4, wb4, gc, rfl, hs1, hsm⟩
    replace HS : Aside0 (Sep w u4 [Blk w.heap.size #[.bool false] 4, Def D, S1.Arr p1 sb1 ob1 wb1 n (runL n (l.take k)), S1.Arr p2 sb2 ob2 wb2 n (runL n (l.take k)), S1.Arr p3 sb3 ob3 wb3 n (runL n l), S1.Arr p4 sb4 ob4 wb4 n gc]) := ⟨HS.out.append hs1⟩
    have HM := Aside0.mk (And.intro hsm hgl)
    clear hs1 hsm hgl
    have C := Aside0.mk (cap_any (HS.out.arr 5 rfl).choose_spec)
    go_wp2_with fail
    refine C.out.mono ?_
    clear C
    rintro e u5 ⟨rfl, rfl⟩
    go_wp2
    go_loopg [18] (l.length + 1) (fun kq v18 W2 => ∃ (i : Nat) (gc : Gap), v18 = .int .i64 (i : Int) ∧ k ≤ i ∧ i ≤ l.length ∧ Aside0 (l.length + 1 - i ≤ kq) ∧ Aside0 (Same n (runL n (l.take i)) gc ∧ n ≤ (runL n (l.take i)).xs.length) ∧ Aside0 (Sep w W2 [Blk w.heap.size #[.bool false] 4, Def D, S1.Arr p1 sb1 ob1 wb1 n (runL n (l.take k)), S1.Arr p2 sb2 ob2 wb2 n (runL n (l.take k)), S1.Arr p3 sb3 ob3 wb3 n (runL n l), S1.Arr p4 sb4 ob4 wb4 n gc]))
    case atStart => exact ⟨k, gc, rfl, Nat.le_refl _, hk, ⟨by omega⟩, HM, HS⟩
    case round =>
      clear HS HM
      obtain ⟨i, gc, rfl, hi1, hi, HQ, HM, HS⟩ := hrel
      by_cases hlt : i < l.length
      · obtain ⟨ad, e, d0, d1, d2⟩ := at_act (Kd.C_below HR.out HS.out.below) i hlt
        cases e
        have D2 := Aside0.mk (does_any (HS.out.arr 5 rfl) (l.getD i zAct))
        have HN := Aside0.mk (runL_snoc n l i hlt)
        have HA := Aside0.mk (act_same HM.out.1 HM.out.2 (l.getD i zAct))
        have HC := Aside0.mk hlt
        generalize l.getD i zAct = a at *
        go_wp2_with fail
        refine D2.out.mono ?_
        clear D2 d0 d1 d2
        rintro e w12 ⟨rfl, h3, h4⟩
        replace HS := Aside0.mk (HS.out.turn_arr 5 rfl h4 h3)
        clear h3 h4
        go_wp2
        go_roundg (l.length - i)
        case measure => have := HQ.out; have := HC.out; omega
        case rel => exact ⟨i + 1, _, by go_num, by omega, by have := HC.out; omega, ⟨by omega⟩, ⟨by rw [HN.out]; exact HA.out⟩, HS⟩
      · obtain rfl : i = l.length := by omega
        clear hlt
        rw [List.take_length] at HM
        have C := items_any (HS.out.arr 2 rfl).choose_spec (Kd.C_below HT.out HS.out.below)
        skip
        have C := Aside0.mk C
        go_wp2_with fail
        refine C.out.mono ?_
        clear C
        rintro e xi ⟨Ai, ci, rfl, g1i, g2i, g3i, hb⟩
        replace HS := Aside0.mk (HS.out.append (own_conv hb g3i (vals_len _ _ _)))
        clear g1i g2i g3i hb
        have C := places_any (HS.out.arr 2 rfl).choose_spec (Kd.C_below HT.out HS.out.below)
        skip
        have C := Aside0.mk C
        go_wp2_with fail
        refine C.out.mono ?_
        clear C
        rintro e xj ⟨Aj, cj, rfl, g1j, g2j, g3j, hb⟩
        replace HS := Aside0.mk (HS.out.append (own_conv hb g3j (keys_len _ _ _)))
        clear g1j g2j g3j hb
        have hm1 : cntF (runL n (l.take k)).on n ≤ 200 := Nat.le_trans (cntF_le _ _) h2
        obtain ⟨v, hv⟩ : ∃ v, vals (ons (runL n (l.take k)).on (runL n (l.take k)).xs n) = v := ⟨_, rfl⟩
        obtain ⟨kk, hkk⟩ : ∃ v, keys (ons (runL n (l.take k)).on (runL n (l.take k)).xs n) = v := ⟨_, rfl⟩
        have lv := vals_len (runL n (l.take k)).on (runL n (l.take k)).xs n
        have lk := keys_len (runL n (l.take k)).on (runL n (l.take k)).xs n
        obtain ⟨m, hm⟩ : ∃ m, cntF (runL n (l.take k)).on n = m := ⟨_, rfl⟩
        rw [hv, hkk, hm] at HS
        rw [hv, hm] at lv
        rw [hkk, hm] at lk
        rw [hm] at hm1 ⊢
        have HL := Aside0.mk (And.intro lv lk)
        clear lv lk hv hkk hm
        go_wp2
        go_loopg [21] (m + 1) (fun kq v21 W2 => ∃ (i : Nat) (v kk : List Int), v21 = .int .i64 (i : Int) ∧ i ≤ m ∧ Aside0 (m + 1 - i ≤ kq) ∧ Aside0 (v.length = m ∧ kk.length = m) ∧ Aside0 (Sep w W2 [Blk w.heap.size #[.bool false] 4, Def D, S1.Arr p1 sb1 ob1 wb1 n (runL n (l.take k)), S1.Arr p2 sb2 ob2 wb2 n (runL n (l.take k)), S1.Arr p3 sb3 ob3 wb3 n (runL n l), S1.Arr p4 sb4 ob4 wb4 n gc, S1.Own (.slice Ai m ci) v, S1.Own (.slice Aj m cj) kk]))
        case atStart => exact ⟨0, v, kk, rfl, by omega, ⟨by omega⟩, HL, HS⟩
        case round =>
          clear HS HQ HL
          obtain ⟨i, v, kk, rfl, hi, HQ, HL, HS⟩ := hrel
          by_cases hlt : i < m
          · have HC := Aside0.mk hlt
            obtain ⟨b1, e, k1⟩ := own_addr (HS.out.own 6 rfl) (by rw [HL.out.1]; omega)
            cases e
            obtain ⟨b2, e, k2⟩ := own_addr (HS.out.own 7 rfl) (by rw [HL.out.2]; omega)
            cases e
            have x1 := k1 i (by rw [HL.out.1]; omega)
            have h6 := HS.out.own 6 rfl
            rw [HL.out.1] at h6
            have f1 := (own_at h6 (i : Int) (by omega) (by omega)).2
            rw [Int.toNat_natCast] at f1
            obtain ⟨x, hx⟩ : ∃ x, v.getD i 0 = x := ⟨_, rfl⟩
            rw [hx] at x1
            obtain ⟨y, hy⟩ : ∃ y, IntKind.i64.wrap (x + 1) = y := ⟨_, rfl⟩
            have HS1 := Aside0.mk (turn_own HS.out 6 rfl i y)
            have h7 := HS1.out.own 7 rfl
            rw [HL.out.2] at h7
            have f2 := (own_at h7 (i : Int) (by omega) (by omega)).2
            have x2 := (own_at h7 (i : Int) (by omega) (by omega)).1
            rw [Int.toNat_natCast] at f2 x2
            generalize rd kk (i : Int) = z at x2
            have HS2 := Aside0.mk (turn_own HS1.out 7 rfl i (-9))
            clear k1 k2 hx h6 h7
            go_wp2
            go_roundg (m - i)
            case measure => have := HQ.out; have := HC.out; omega
            case rel => exact ⟨i + 1, _, _, by go_num, by have := HC.out; omega, ⟨by omega⟩, ⟨by rw [List.length_set, List.length_set]; exact HL.out⟩, HS2⟩
          · obtain rfl : i = m := by omega
            clear hlt
            have C := items_any (HS.out.arr 2 rfl).choose_spec (Kd.C_below HT.out HS.out.below)
            skip
            have C := Aside0.mk C
            go_wp2_with fail
            refine C.out.mono ?_
            clear C
            rintro e xra ⟨Ara, cra, rfl, g1ra, g2ra, g3ra, hb⟩
            replace HS := Aside0.mk (HS.out.step hb)
            have HR1 := Aside0.mk (And.intro g1ra g2ra)
            clear g1ra g2ra g3ra hb
            have C := items_any (HS.out.arr 3 rfl).choose_spec (Kd.C_below HT.out HS.out.below)
            skip
            have C := Aside0.mk C
            go_wp2_with fail
            refine C.out.mono ?_
            clear C
            rintro e xrb ⟨Arb, crb, rfl, g1rb, g2rb, g3rb, hb⟩
            replace HS := Aside0.mk (HS.out.step hb)
            have C := Aside0.mk (ints_same _ _ _ _ _ _ _ (Kd.C_below HR1.out.2 hb) HR1.out.1 g2rb g1rb (Nat.le_trans (cntF_le _ _) (by omega)))
            clear g1rb g2rb g3rb hb
            go_wp2_with fail
            refine C.out.mono ?_
            clear C
            rintro e xc ⟨rfl, hd⟩
            replace HS := Aside0.mk (HS.out.step hd.below)
            clear hd
            have C := places_any (HS.out.arr 2 rfl).choose_spec (Kd.C_below HT.out HS.out.below)
            skip
            have C := Aside0.mk C
            go_wp2_with fail
            refine C.out.mono ?_
            clear C
            rintro e xra ⟨Ara, cra, rfl, g1ra, g2ra, g3ra, hb⟩
            replace HS := Aside0.mk (HS.out.step hb)
            have HR1 := Aside0.mk (And.intro g1ra g2ra)
            clear g1ra g2ra g3ra hb
            have C := places_any (HS.out.arr 3 rfl).choose_spec (Kd.C_below HT.out HS.out.below)
            skip
            have C := Aside0.mk C
            go_wp2_with fail
            refine C.out.mono ?_
            clear C
            rintro e xrb ⟨Arb, crb, rfl, g1rb, g2rb, g3rb, hb⟩
            replace HS := Aside0.mk (HS.out.step hb)
            have C := Aside0.mk (ints_same _ _ _ _ _ _ _ (Kd.C_below HR1.out.2 hb) HR1.out.1 g2rb g1rb (Nat.le_trans (cntF_le _ _) (by omega)))
            clear g1rb g2rb g3rb hb
            go_wp2_with fail
            refine C.out.mono ?_
            clear C
            rintro e xc ⟨rfl, hd⟩
            replace HS := Aside0.mk (HS.out.step hd.below)
            clear hd
            have C := items_any (HS.out.arr 5 rfl).choose_spec (Kd.C_below HT.out HS.out.below)
            skip
            have C := Aside0.mk C
            go_wp2_with fail
            refine C.out.mono ?_
            clear C
            rintro e xra ⟨Ara, cra, rfl, g1ra, g2ra, g3ra, hb⟩
            replace HS := Aside0.mk (HS.out.step hb)
            have HR1 := Aside0.mk (And.intro g1ra g2ra)
            clear g1ra g2ra g3ra hb
            have C := items_any (HS.out.arr 4 rfl).choose_spec (Kd.C_below HT.out HS.out.below)
            rw [← HM.out.1.ons, ← HM.out.1.on] at C
            have C := Aside0.mk C
            go_wp2_with fail
            refine C.out.mono ?_
            clear C
            rintro e xrb ⟨Arb, crb, rfl, g1rb, g2rb, g3rb, hb⟩
            replace HS := Aside0.mk (HS.out.step hb)
            have C := Aside0.mk (ints_same _ _ _ _ _ _ _ (Kd.C_below HR1.out.2 hb) HR1.out.1 g2rb g1rb (Nat.le_trans (cntF_le _ _) (by omega)))
            clear g1rb g2rb g3rb hb
            go_wp2_with fail
            refine C.out.mono ?_
            clear C
            rintro e xc ⟨rfl, hd⟩
            replace HS := Aside0.mk (HS.out.step hd.below)
            clear hd
            have C := places_any (HS.out.arr 5 rfl).choose_spec (Kd.C_below HT.out HS.out.below)
            skip
            have C := Aside0.mk C
            go_wp2_with fail
            refine C.out.mono ?_
            clear C
            rintro e xra ⟨Ara, cra, rfl, g1ra, g2ra, g3ra, hb⟩
            replace HS := Aside0.mk (HS.out.step hb)
            have HR1 := Aside0.mk (And.intro g1ra g2ra)
            clear g1ra g2ra g3ra hb
            have C := places_any (HS.out.arr 4 rfl).choose_spec (Kd.C_below HT.out HS.out.below)
            rw [← HM.out.1.ons, ← HM.out.1.on] at C
            have C := Aside0.mk C
            go_wp2_with fail
            refine C.out.mono ?_
            clear C
            rintro e xrb ⟨Arb, crb, rfl, g1rb, g2rb, g3rb, hb⟩
            replace HS := Aside0.mk (HS.out.step hb)
            have C := Aside0.mk (ints_same _ _ _ _ _ _ _ (Kd.C_below HR1.out.2 hb) HR1.out.1 g2rb g1rb (Nat.le_trans (cntF_le _ _) (by omega)))
            clear g1rb g2rb g3rb hb
            go_wp2_with fail
            refine C.out.mono ?_
            clear C
            rintro e xc ⟨rfl, hd⟩
            replace HS := Aside0.mk (HS.out.step hd.below)
            clear hd
            have C := Aside0.mk (awake_any _ (Kd.C_below HT.out HS.out.below))
            go_wp2_with fail
            refine C.out.mono ?_
            clear C
            rintro e w30 ⟨rfl, hw⟩
            replace HS := Aside0.mk (HS.out.step hw)
            clear hw
            have f0 := blk_frozen (HS.out.blk 0 rfl) 0
            have c0 : (_ : Option Value) = some (.bool false) := (blk_cell (HS.out.blk 0 rfl) 0).trans rfl
            go_wp2
            replace HS := Aside0.mk (HS.out.turn_blk 0 rfl 0 (.bool true))
            have HS2 := sep_shut HS.out 1 rfl
            (try simp only [Exit.inBlock, Exit.then])
            refine leave1 (HS.out.get 1 rfl) (results_cell (t := 6) (ty := 4) (b := w.heap.size) rfl rfl ((blk_cell (HS2.blk 0 rfl) 0).trans rfl) (run_isAgg_plain Tryd.underlying4 rfl _)) ⟨rfl, HS2.below⟩
theorem law (n : Int) (wn : (Lit.int .i64 n).wf = true) (A : Option Addr) (c : Nat) (l : List Cal) {W0 : World} (g : Kd.C kAct W0 A l.length l) (hc : l.length ≤ c) (k : Int) (wk : (Lit.int .i64 k).wf = true) (W : World) (hT : Tb W) (hW : W = W0 := by rfl) :
    Calls Tryd.prog 11 #[.int .i64 n, .slice A l.length c, .int .i64 k] W fun e w' => e = .returned (.bool true) ∧ Below W.heap.size W w' := by
  subst hW
  by_cases h : n < 1 ∨ 200 < n ∨ 60 < l.length ∨ k < 0 ∨ (l.length : Int) < k
  · exact own_no n k A c l W hT h
  · obtain ⟨n, rfl⟩ := Int.eq_ofNat_of_zero_le (show 0 ≤ n by omega)
    obtain ⟨k, rfl⟩ := Int.eq_ofNat_of_zero_le (show 0 ≤ k by omega)
    exact own_yes n k A c l W hT g hc (by omega) (by omega) (by omega) (by omega)
end Go.Proofs.YtbjkncgpoengaaaDoor.GW
