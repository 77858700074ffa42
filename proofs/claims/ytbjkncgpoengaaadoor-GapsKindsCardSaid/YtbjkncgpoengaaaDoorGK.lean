/- The law GapsKinds walked: it returns true, whatever the number of slots and the calls. -/
import Derived.Test.YtbjkncgpoengaaaDoorJ11
import Derived.Test.YtbjkncgpoengaaaDoorRF
import Derived.Test.YtbjkncgpoengaaaDoorG12
import Derived.BigQuiet
namespace Go.Proofs.YtbjkncgpoengaaaDoor.GK
open Go.RowKit Go.Shelf Go.Proofs.YtbjkncgpoengaaaDoorW.PrintWords Go.Proofs.YtbjkncgpoengaaaDoorW.PrintLast Go.Proofs.YtbjkncgpoengaaaDoorW.PrintMore G1 G0 Q1 G2 G3 G4 G6 G8 G9 G11 G12 S1
open G10 (Gap Cal actR actS inR putR putS takeR takeS moveR moveS does_any)
open RF (own_conv vals_len keys_len own_addr)
open HP (ArrP OwnP sep_arr sep_new sep_turn sep_ownP own_cellP gnew_yes put_any take_any move_any)
set_option linter.unusedVariables false
set_option linter.unusedSimpArgs false
/-- The pairs' numbers: the i-th call's element is i + 1. -/
def prL (l : List Cal) (x : Int) : Int × Int := if x ≤ 0 then (0, 0) else ((l.getD (x.toNat - 1) zAct).x, x - 1)
theorem prL_zero (l : List Cal) : prL l 0 = (0, 0) := rfl
theorem prL_at (l : List Cal) (i : Nat) : prL l ((i : Int) + 1) = ((l.getD i zAct).x, (i : Int)) := by
  unfold prL
  rw [if_neg (by omega), show ((i : Int) + 1).toNat - 1 = i by omega, show (i : Int) + 1 - 1 = i by omega]
/-- Arrays that stand alike, but for what their elements are. -/
structure RelP (pr : Int → Int × Int) (n : Nat) (gs gt : Gap) : Prop where
  on : gt.on = gs.on
  xs : ∀ j, j < n → (pr (gt.xs.getD j 0)).1 = gs.xs.getD j 0
  ls : n ≤ gs.xs.length
  lt : n ≤ gt.xs.length
theorem get_set {xs : List Int} {i j : Nat} {v : Int} (hi : i < xs.length) : (xs.set i v).getD j 0 = if j = i then v else xs.getD j 0 := by
  simp only [List.getD_eq_getElem?_getD]
  by_cases e : j = i
  · subst e
    rw [if_pos rfl, List.getElem?_set_self hi]; rfl
  · rw [if_neg e, List.getElem?_set_ne (fun c => e c.symm)]
theorem inR_lt {n : Nat} {i : Int} (h : inR n i = true) : i.toNat < n ∧ 0 ≤ i := by
  have := of_decide_eq_true h
  omega
section
variable {pr : Int → Int × Int} {n : Nat} {gs gt : Gap}
theorem rel_put (h : RelP pr n gs gt) {i v x : Int} (hx : (pr x).1 = v) : putR n gt i = putR n gs i ∧ RelP pr n (putS n gs i v) (putS n gt i x) := by
  have e : putR n gt i = putR n gs i := by unfold putR; rw [h.on]
  refine ⟨e, ?_⟩
  unfold putS
  rw [e]
  split
  · rename_i h0
    have hi : inR n i = true := by
      cases hb : inR n i with
      | true => rfl
      | false => unfold putR at h0; rw [hb] at h0; simp at h0
    have hi := (inR_lt hi).1
    have h1 := h.ls
    have h2 := h.lt
    refine ⟨by show upd gt.on _ _ = _; rw [h.on], fun j hj => ?_, by show n ≤ (gs.xs.set _ _).length; rw [List.length_set]; exact h1, by show n ≤ (gt.xs.set _ _).length; rw [List.length_set]; exact h2⟩
    show (pr ((gt.xs.set _ _).getD j 0)).1 = (gs.xs.set _ _).getD j 0
    rw [get_set (by omega), get_set (by omega)]
    split
    · exact hx
    · exact h.xs j hj
  · exact h
theorem rel_take (z : pr 0 = (0, 0)) (h : RelP pr n gs gt) (i : Int) : (takeR n gt i).2 = (takeR n gs i).2 ∧ (pr (takeR n gt i).1).1 = (takeR n gs i).1 ∧ RelP pr n (takeS n gs i) (takeS n gt i) := by
  have e : (takeR n gt i).2 = (takeR n gs i).2 := by
    unfold takeR
    rw [h.on]
    split
    · split <;> rfl
    · rfl
  refine ⟨e, ?_, ?_⟩
  · unfold takeR
    rw [h.on]
    split
    · rename_i hi
      split
      · exact h.xs _ (inR_lt hi).1
      · show (pr 0).1 = 0; rw [z]
    · show (pr 0).1 = 0; rw [z]
  · unfold takeS
    rw [e]
    split
    · rename_i h0
      have hi : inR n i = true := by
        cases hb : inR n i with
        | true => rfl
        | false => unfold takeR at h0; rw [hb] at h0; simp at h0
      have hi := (inR_lt hi).1
      have h1 := h.ls
      have h2 := h.lt
      refine ⟨by show upd gt.on _ _ = _; rw [h.on], fun j hj => ?_, by show n ≤ (gs.xs.set _ _).length; rw [List.length_set]; exact h1, by show n ≤ (gt.xs.set _ _).length; rw [List.length_set]; exact h2⟩
      show (pr ((gt.xs.set _ _).getD j 0)).1 = (gs.xs.set _ _).getD j 0
      rw [get_set (by omega), get_set (by omega)]
      split
      · rw [z]
      · exact h.xs j hj
    · exact h
theorem rel_move (z : pr 0 = (0, 0)) (h : RelP pr n gs gt) (i x : Int) : moveR n gt i x = moveR n gs i x ∧ RelP pr n (moveS n gs i x) (moveS n gt i x) := by
  have e : moveR n gt i x = moveR n gs i x := by unfold moveR; rw [h.on]
  refine ⟨e, ?_⟩
  unfold moveS
  rw [e]
  split
  · rename_i h0
    have hix : inR n i = true ∧ inR n x = true := by
      cases hb : inR n i && inR n x with
      | true => exact Bool.and_eq_true_iff.1 hb
      | false => unfold moveR at h0; rw [hb] at h0; simp at h0
    have hi := (inR_lt hix.1).1
    have hx := (inR_lt hix.2).1
    have h1 := h.ls
    have h2 := h.lt
    have key : ∀ (ys : List Int) (u v : Int), n ≤ ys.length → ∀ j, ((ys.set i.toNat u).set x.toNat v).getD j 0 = if j = x.toNat then v else if j = i.toNat then u else ys.getD j 0 := fun ys u v hy j => by
      rw [get_set (by rw [List.length_set]; omega), get_set (by omega)]
    refine ⟨by show upd (upd gt.on _ _) _ _ = _; rw [h.on], fun j hj => ?_, by show n ≤ ((gs.xs.set _ _).set _ _).length; rw [List.length_set, List.length_set]; exact h1, by show n ≤ ((gt.xs.set _ _).set _ _).length; rw [List.length_set, List.length_set]; exact h2⟩
    show (pr (((gt.xs.set _ _).set _ _).getD j 0)).1 = ((gs.xs.set _ _).set _ _).getD j 0
    rw [key _ _ _ h2, key _ _ _ h1]
    split
    · exact h.xs _ hi
    · split
      · rw [z]
      · exact h.xs j hj
  · exact h
theorem rel_vals (h : RelP pr n gs gt) : vals (ons gs.on gs.xs n) = (vals (ons gt.on gt.xs n)).map fun x => (pr x).1 := by
  unfold vals ons
  rw [h.on, List.map_map, List.map_map, List.map_map]
  refine List.map_congr_left fun j hj => ?_
  exact (h.xs j (List.mem_range.1 (List.mem_filter.1 hj).1)).symm
theorem keys_on {f : Nat → Bool} {xs ys : List Int} (n : Nat) : keys (ons f xs n) = keys (ons f ys n) := by
  unfold keys ons
  rw [List.map_map, List.map_map]
  rfl
end
theorem kinds_no (n : Int) (A : Option Addr) (c : Nat) (l : List Cal) (w : World) (hT : Tb w) (h : n < 1 ∨ 200 < n ∨ 60 < l.length) :
    Calls Tryd.prog 3 #[.int .i64 n, .slice A l.length c] w fun e w' => e = .returned (.bool true) ∧ Below w.heap.size w w' := by
  have HT := Aside0.mk hT
  have HS := Aside0.mk (Sep.nil w)
  clear hT
  by_cases h1 : n < 1
  · clear h
    go_enter Tryd.func3, Tryd.ntmps3
    have C := Aside0.mk (awake_any _ (Kd.C_below HT.out HS.out.below))
    go_wp2_with fail
    refine C.out.mono ?_
    clear C
    rintro e w30 ⟨rfl, hb⟩
    replace HS := Aside0.mk (HS.out.step hb)
    clear hb
    go_wp2
    (try rw [Exit.noGoto_ret])
    go_ret
    exact ⟨rfl, HS.out.below⟩
  · by_cases h2 : 200 < n
    · clear h
      go_enter Tryd.func3, Tryd.ntmps3
      have C := Aside0.mk (awake_any _ (Kd.C_below HT.out HS.out.below))
      go_wp2_with fail
      refine C.out.mono ?_
      clear C
      rintro e w30 ⟨rfl, hb⟩
      replace HS := Aside0.mk (HS.out.step hb)
      clear hb
      go_wp2
      (try rw [Exit.noGoto_ret])
      go_ret
      exact ⟨rfl, HS.out.below⟩
    · have h3 : 60 < l.length := by omega
      clear h
      go_enter Tryd.func3, Tryd.ntmps3
      have C := Aside0.mk (awake_any _ (Kd.C_below HT.out HS.out.below))
      go_wp2_with fail
      refine C.out.mono ?_
      clear C
      rintro e w30 ⟨rfl, hb⟩
      replace HS := Aside0.mk (HS.out.step hb)
      clear hb
      go_wp2
      (try rw [Exit.noGoto_ret])
      go_ret
      exact ⟨rfl, HS.out.below⟩
set_option maxRecDepth 100000 in
set_option maxHeartbeats 4000000 in
theorem kinds_yes (n : Nat) (A : Option Addr) (c : Nat) (l : List Cal) (w : World) (hT : Tb w) (hr : Kd.C kAct w A l.length l) (h1 : 1 ≤ n) (h2 : n ≤ 200) (h3 : l.length ≤ 60) :
    Calls Tryd.prog 3 #[.int .i64 n, .slice A l.length c] w fun e w' => e = .returned (.bool true) ∧ Below w.heap.size w w' := by
  have HT := Aside0.mk hT
  have HR := Aside0.mk hr
  have C := made_yes (n := n) (A := none) (c := 0) (l := []) h1 (by omega) (Kd.C_nil kAct w) (by simp)
  have C := Aside0.mk C
  clear hT hr
  go_enter Tryd.func3, Tryd.ntmps3
  go_wp2_with fail
  refine C.out.mono ?_
  clear C
  rintro e w1 ⟨p, sb, ob, wb, rfl, hF, hb⟩
  have HS := Aside0.mk ((Sep.nil w).new_arr hb hF.2 hF.1)
  clear hF hb
  have C := Aside0.mk (gnew_yes (prL_zero l) n w1 h1 (by omega))
  go_wp2_with fail
  refine C.out.mono ?_
  clear C
  rintro e w2 ⟨q, qs, qo, qw, rfl, h4, hs, hb⟩
  have HS : Aside0 (Sep w w2 [Arr p sb ob wb n (runL n []), ArrP (prL l) q qs qo qw n ⟨fun _ => false, List.replicate n 0⟩]) := ⟨sep_new HS.out hb ⟨_, hs⟩ h4⟩
  clear h4 hs hb
  have HR0 : Aside0 (RelP (prL l) n (runL n []) ⟨fun _ => false, List.replicate n 0⟩) := ⟨⟨rfl, fun j hj => by
    have e : (List.replicate n (0 : Int)).getD j 0 = 0 := by simp [List.getD_eq_getElem?_getD, List.getElem?_replicate]; split <;> rfl
    show (prL l ((List.replicate n 0).getD j 0)).1 = (List.replicate n 0).getD j 0
    rw [e]; rfl, by show n ≤ (List.replicate n (0 : Int)).length; simp, by show n ≤ (List.replicate n (0 : Int)).length; simp⟩⟩
  go_wp2
  go_loopg [8] (l.length + 1) (fun kq v8 W => ∃ (i : Nat) (gs gt : Gap), v8 = .int .i64 (i : Int) ∧ i ≤ l.length ∧ Aside0 (l.length + 1 - i ≤ kq) ∧ Aside0 (RelP (prL l) n gs gt) ∧ Aside0 (Sep w W [Arr p sb ob wb n gs, ArrP (prL l) q qs qo qw n gt]))
  case atStart => exact ⟨0, _, _, rfl, by omega, ⟨by omega⟩, HR0, HS⟩
  case round =>
    clear HS HR0
    obtain ⟨i, gs, gt, rfl, hi, HQ, HY, HS⟩ := hrel
    by_cases hlt : i < l.length
    · have HC := Aside0.mk hlt
      have hi5 : (i : Int) ≤ 60 := by omega
      obtain ⟨ad, e, d0, d1, d2⟩ := at_act (Kd.C_below HR.out HS.out.below) i hlt
      cases e
      have HPR := Aside0.mk (prL_at l i)
      generalize l.getD i zAct = a at *
      obtain ⟨ad0, ad1, ad2⟩ := a
      dsimp only at d0 d1 d2 HPR
      have HS1 := Aside0.mk (HS.out.new_blk #[.int .i64 ad0, .int .i64 ad1, .int .i64 ad2] 32)
      have D := Aside0.mk (does_any (HS1.out.arr 0 rfl) ⟨ad0, ad1, ad2⟩)
      have x0 : (_ : Option Value) = some (.int .i64 ad0) := (blk_cell (HS1.out.blk 2 rfl) 0).trans rfl
      have x1 : (_ : Option Value) = some (.int .i64 ad1) := (blk_cell (HS1.out.blk 2 rfl) 1).trans rfl
      have x2 : (_ : Option Value) = some (.int .i64 ad2) := (blk_cell (HS1.out.blk 2 rfl) 2).trans rfl
      go_wp2_with fail
      refine D.out.mono ?_
      clear D d0 d1 d2 x0 x1 x2 HS
      rintro e w4 ⟨rfl, h4, h5⟩
      obtain ⟨zb, hzb⟩ : ∃ zb, wr.heap.size = zb := ⟨_, rfl⟩
      rw [hzb] at HS1
      have HS := Aside0.mk ((HS1.out.turn_arr 0 rfl h5 h4).new_blk #[.int .i64 0, .int .i64 0] 30)
      clear h4 h5 HS1
      have x0 : (_ : Option Value) = some (.int .i64 ad0) := (blk_cell (HS.out.blk 2 rfl) 0).trans rfl
      have x1 : (_ : Option Value) = some (.int .i64 ad1) := (blk_cell (HS.out.blk 2 rfl) 1).trans rfl
      have x2 : (_ : Option Value) = some (.int .i64 ad2) := (blk_cell (HS.out.blk 2 rfl) 2).trans rfl
      by_cases hd0 : ad0 = 0
      · subst hd0
        obtain ⟨r1, r2⟩ := rel_put HY.out (i := ad1) (x := (i : Int) + 1) (v := ad2) (by rw [HPR.out])
        have CP := put_any (sep_arr HS.out 1 rfl) ad1 HPR.out
        rw [r1] at CP
        have CP := Aside0.mk CP
        have HREL : Aside0 (RelP (prL l) n (actS n gs ⟨0, ad1, ad2⟩) (putS n gt ad1 ((i : Int) + 1))) := ⟨r2⟩
        rw [show actR n gs ⟨0, ad1, ad2⟩ = (0, putR n gs ad1) from rfl]
        clear r1 r2 HY
        dsimp only
        generalize putR n gs ad1 = r at CP ⊢
        have q1 : (r != r) = false := by simp
        go_wp2_with fail
        refine CP.out.mono ?_
        clear CP x0 x1 x2
        rintro e w6 ⟨rfl, h4, h5⟩
        obtain ⟨yb, hyb⟩ : ∃ yb, w4.heap.size = yb := ⟨_, rfl⟩
        have HS2 := sep_turn HS.out 1 rfl h5 h4
        rw [hyb] at HS2
        have HS := Aside0.mk HS2
        clear h4 h5 HS2
        have y0 : (_ : Option Value) = some (.int .i64 0) := (blk_cell (HS.out.blk 3 rfl) 0).trans rfl
        go_wp2
        go_roundg (l.length - i)
        case measure => have := HQ.out; have := HC.out; omega
        case rel => exact ⟨i + 1, _, _, by go_num, by have := HC.out; omega, ⟨by omega⟩, HREL, ⟨HS.out.take 2⟩⟩
      · by_cases hd1 : ad0 = 1
        · subst hd1
          obtain ⟨r1, r2, r3⟩ := rel_take (prL_zero l) HY.out ad1
          have CP := take_any (sep_arr HS.out 1 rfl) ad1
          rw [r1, r2] at CP
          have HREL : Aside0 (RelP (prL l) n (actS n gs ⟨1, ad1, ad2⟩) (takeS n gt ad1)) := ⟨r3⟩
          rw [show actR n gs ⟨1, ad1, ad2⟩ = takeR n gs ad1 from rfl]
          clear r1 r2 r3 HY hd0
          obtain ⟨v, hv⟩ : ∃ v, (takeR n gs ad1).1 = v := ⟨_, rfl⟩
          obtain ⟨r, hr⟩ : ∃ r, (takeR n gs ad1).2 = r := ⟨_, rfl⟩
          rw [hv, hr] at CP ⊢
          generalize (prL l (takeR n gt ad1).1).2 = v2 at CP
          have CP := Aside0.mk CP
          clear hv hr
          have q1 : (r != r) = false := by simp
          have q2 : (v != v) = false := by simp
          go_wp2_with fail
          refine CP.out.mono ?_
          clear CP x0 x1 x2
          rintro e w6 ⟨rfl, h4, h5⟩
          obtain ⟨yb, hyb⟩ : ∃ yb, w4.heap.size = yb := ⟨_, rfl⟩
          have HS2 := sep_turn HS.out 1 rfl h5 h4
          rw [hyb] at HS2
          have HS := Aside0.mk HS2
          clear h4 h5 HS2
          have y0 : (_ : Option Value) = some (.int .i64 0) := (blk_cell (HS.out.blk 3 rfl) 0).trans rfl
          have y1 : (_ : Option Value) = some (.int .i64 0) := (blk_cell (HS.out.blk 3 rfl) 1).trans rfl
          have f0 := blk_frozen (HS.out.blk 3 rfl) 0
          have f1 := blk_frozen (HS.out.blk 3 rfl) 1
          have HS2 := (HS.out.turn_blk 3 rfl 0 (.int .i64 v)).turn_blk 3 rfl 1 (.int .i64 v2)
          have z0 : (_ : Option Value) = some (.int .i64 v) := (blk_cell (HS2.blk 3 rfl) 0).trans rfl
          clear HS
          have HS := Aside0.mk HS2
          clear HS2
          go_wp2
          go_roundg (l.length - i)
          case measure => have := HQ.out; have := HC.out; omega
          case rel => exact ⟨i + 1, _, _, by go_num, by have := HC.out; omega, ⟨by omega⟩, HREL, ⟨HS.out.take 2⟩⟩
        · have g0 : (ad0 == 0) = false := beq_eq_false_iff_ne.2 hd0
          have g1 : (ad0 == 1) = false := beq_eq_false_iff_ne.2 hd1
          obtain ⟨r1, r2⟩ := rel_move (prL_zero l) HY.out ad1 ad2
          have CP := move_any (sep_arr HS.out 1 rfl) ad1 ad2
          rw [r1] at CP
          have CP := Aside0.mk CP
          have e1 : actR n gs ⟨ad0, ad1, ad2⟩ = (0, moveR n gs ad1 ad2) := by unfold actR; dsimp only; rw [if_neg hd0, if_neg hd1]
          have e2 : actS n gs ⟨ad0, ad1, ad2⟩ = moveS n gs ad1 ad2 := by unfold actS; dsimp only; rw [if_neg hd0, if_neg hd1]
          have HREL : Aside0 (RelP (prL l) n (actS n gs ⟨ad0, ad1, ad2⟩) (moveS n gt ad1 ad2)) := ⟨by rw [e2]; exact r2⟩
          rw [e1]
          clear r1 r2 e1 e2 HY hd0 hd1
          dsimp only
          generalize moveR n gs ad1 ad2 = r at CP ⊢
          have q1 : (r != r) = false := by simp
          go_wp2_with fail
          refine CP.out.mono ?_
          clear CP x0 x1 x2
          rintro e w6 ⟨rfl, h4, h5⟩
          obtain ⟨yb, hyb⟩ : ∃ yb, w4.heap.size = yb := ⟨_, rfl⟩
          have HS2 := sep_turn HS.out 1 rfl h5 h4
          rw [hyb] at HS2
          have HS := Aside0.mk HS2
          clear h4 h5 HS2
          have y0 : (_ : Option Value) = some (.int .i64 0) := (blk_cell (HS.out.blk 3 rfl) 0).trans rfl
          go_wp2
          go_roundg (l.length - i)
          case measure => have := HQ.out; have := HC.out; omega
          case rel => exact ⟨i + 1, _, _, by go_num, by have := HC.out; omega, ⟨by omega⟩, HREL, ⟨HS.out.take 2⟩⟩
    · obtain rfl : i = l.length := by omega
      clear hlt
      have hv := rel_vals HY.out
      have hk : keys (ons gt.on gt.xs n) = keys (ons gs.on gs.xs n) := by rw [HY.out.on]; exact keys_on n
      have hc : cntF gt.on n = cntF gs.on n := by rw [HY.out.on]
      have hm1 : cntF gs.on n ≤ 200 := Nat.le_trans (cntF_le _ _) h2
      have lv := vals_len gt.on gt.xs n
      have lw := vals_len gs.on gs.xs n
      rw [hc] at lv
      have C1 := Aside0.mk (fun (W : World) (hb : Below w.heap.size w W) (h : HP.Is (prL l) W q qs qo qw n gt) => HP.items_any h.choose_spec (Kd.C_below HT.out hb))
      have C2 := Aside0.mk (fun (W : World) (hb : Below w.heap.size w W) (h : G10.Is W p sb ob wb n gs) => items_any h.choose_spec (Kd.C_below HT.out hb))
      have C3 := Aside0.mk (fun (W : World) (hb : Below w.heap.size w W) (h : G10.Is W p sb ob wb n gs) => places_any h.choose_spec (Kd.C_below HT.out hb))
      have C4 := Aside0.mk (fun (W : World) (hb : Below w.heap.size w W) (h : HP.Is (prL l) W q qs qo qw n gt) => HP.places_any h.choose_spec (Kd.C_below HT.out hb))
      rw [hc] at C1 C4
      rw [hk] at C4
      rw [hv] at C2
      generalize vals (ons gt.on gt.xs n) = v at C1 C2 lv
      generalize keys (ons gs.on gs.xs n) = kk at C3 C4
      generalize cntF gs.on n = m at C1 C2 C3 C4 lv hm1
      have HV := Aside0.mk lv
      clear hv hk hc lv lw HY HQ
      have C := Aside0.mk (C1.out wr HS.out.below (sep_arr HS.out 1 rfl))
      go_wp2_with fail
      refine C.out.mono ?_
      clear C C1
      rintro e w6 ⟨A1, k1, rfl, hrow, hb⟩
      rw [show m = v.length from HV.out.symm] at hrow
      have HS : Aside0 (Sep w w6 [Arr p sb ob wb n gs, ArrP (prL l) q qs qo qw n gt, OwnP (prL l) (.slice A1 m k1) v]) := ⟨by
        have h := sep_ownP HS.out hb hrow
        rw [HV.out] at h
        exact h⟩
      clear hrow hb
      have C := Aside0.mk (C2.out w6 HS.out.below (HS.out.arr 0 rfl))
      go_wp2_with fail
      refine C.out.mono ?_
      clear C C2
      rintro e w7 ⟨A2, k2, rfl, _, _, hw, hb⟩
      have HS : Aside0 (Sep w w7 [Arr p sb ob wb n gs, ArrP (prL l) q qs qo qw n gt, OwnP (prL l) (.slice A1 m k1) v, S1.Own (.slice A2 m k2) (v.map fun x => (prL l x).1)]) := ⟨HS.out.append (own_conv hb hw (by rw [List.length_map]; exact HV.out))⟩
      clear hw hb
      have C := Aside0.mk (C3.out w7 HS.out.below (HS.out.arr 0 rfl))
      go_wp2_with fail
      refine C.out.mono ?_
      clear C C3
      rintro e w8 ⟨A3, k3, rfl, g1, g2, _, hb⟩
      replace HS := Aside0.mk (HS.out.step hb)
      have HP1 := Aside0.mk (And.intro g1 g2)
      clear g1 g2 hb
      have C := Aside0.mk (C4.out w8 HS.out.below (sep_arr HS.out 1 rfl))
      go_wp2_with fail
      refine C.out.mono ?_
      clear C C4
      rintro e w9 ⟨A4, k4, rfl, g1, g2, _, hb⟩
      replace HS := Aside0.mk (HS.out.step hb)
      have C := Aside0.mk (ints_same _ _ _ _ _ _ _ (Kd.C_below HP1.out.2 hb) HP1.out.1 g2 g1 (by omega))
      clear g1 g2 hb
      go_wp2_with fail
      refine C.out.mono ?_
      clear C
      rintro e w10 ⟨rfl, hd⟩
      replace HS := Aside0.mk (HS.out.step hd.below)
      clear hd
      go_wp2
      go_loopg [16] (m + 1) (fun kq v16 W => ∃ i : Nat, v16 = .int .i64 (i : Int) ∧ i ≤ m ∧ Aside0 (m + 1 - i ≤ kq) ∧ Aside0 (Sep w W [Arr p sb ob wb n gs, ArrP (prL l) q qs qo qw n gt, OwnP (prL l) (.slice A1 m k1) v, S1.Own (.slice A2 m k2) (v.map fun x => (prL l x).1)]))
      case atStart => exact ⟨0, rfl, by omega, ⟨by omega⟩, HS⟩
      case round =>
        clear HS
        obtain ⟨i, rfl, hi, HQ, HS⟩ := hrel
        by_cases hlt : i < m
        · have HC := Aside0.mk hlt
          obtain ⟨b1, e, y1⟩ := own_cellP HS.out 2 rfl (j := i) (by rw [HV.out]; exact hlt)
          cases e
          obtain ⟨b2, e, kx⟩ := own_addr (HS.out.own 3 rfl) (by rw [List.length_map, HV.out]; omega)
          cases e
          have y2 := kx i (by rw [List.length_map, HV.out]; exact hlt)
          have em : (v.map fun x => (prL l x).1).getD i 0 = (prL l (v.getD i 0)).1 := by
            have hv := HV.out
            simp [List.getD_eq_getElem?_getD, List.getElem?_map, List.getElem?_eq_getElem (show i < v.length by omega)]
          rw [em] at y2
          generalize (prL l (v.getD i 0)).1 = x at y1 y2
          have q1 : (x != x) = false := by simp
          clear kx em
          go_wp2
          go_quiet (fail)
          clear y1 y2
          replace HS := Aside0.mk (HS.out.step (pw_below_drewN (Below.refl _ wr) nq))
          go_wp2
          go_roundg (m - i)
          case measure => have := HQ.out; have := HC.out; omega
          case rel => exact ⟨i + 1, by go_num, by have := HC.out; omega, ⟨by omega⟩, HS⟩
        · obtain rfl : i = m := by omega
          clear hlt
          have C := Aside0.mk (awake_any _ (Kd.C_below HT.out HS.out.below))
          go_wp2_with fail
          refine C.out.mono ?_
          clear C
          rintro e w30 ⟨rfl, hb⟩
          replace HS := Aside0.mk (HS.out.step hb)
          clear hb
          go_wp2
          (try rw [Exit.noGoto_ret])
          go_ret
          exact ⟨rfl, HS.out.below⟩
theorem law (n : Int) (wn : (Lit.int .i64 n).wf = true) (A : Option Addr) (c : Nat) (l : List Cal) {W0 : World} (g : Kd.C kAct W0 A l.length l) (W : World) (hT : Tb W) (hW : W = W0 := by rfl) :
    Calls Tryd.prog 3 #[.int .i64 n, .slice A l.length c] W fun e w' => e = .returned (.bool true) ∧ Below W.heap.size W w' := by
  subst hW
  by_cases h : n < 1 ∨ 200 < n ∨ 60 < l.length
  · exact kinds_no n A c l W hT h
  · obtain ⟨n, rfl⟩ := Int.eq_ofNat_of_zero_le (show 0 ≤ n by omega)
    exact kinds_yes n A c l W hT g (by omega) (by omega) (by omega)
end Go.Proofs.YtbjkncgpoengaaaDoor.GK
