/- The law RebalNil walked: it returns true, whatever the texts, the slots and the numbers. -/
import Derived.Test.YtofkkdjbilklcaaDoorZA
import Derived.Test.YtofkkdjbilklcaaDoorZE
import Derived.Test.YtofkkdjbilklcaaDoorHZ
import Derived.BigQuiet
import Derived.Deep.RegionHeld3
namespace Go.Proofs.YtofkkdjbilklcaaDoor.HN
open Go.RowKit Go.Shelf Go.Proofs.YtofkkdjbilklcaaDoorW.PrintWords Go.Proofs.YtofkkdjbilklcaaDoorW.PrintLast Go.Proofs.YtofkkdjbilklcaaDoorW.PrintMore G1 G0 Q1 G2 G3 G4 G6 G8 S1 Y1 Y3 Y2 Z0 Z4 ZR ZM ZP ZA ZE
open Z3 (evenR)
open G9 (vals keys own_C)
open G10 (Gap putS putR)
open HS (even_any gnew_yes put_any items_any places_any ArrS OwnS sep_arr sep_new sep_turn sep_ownS own_cellS own_lenS strs)
set_option linter.unusedVariables false
set_option linter.unusedSimpArgs false
theorem check_nil (a k : Int) (w : World) : Calls Tryd.prog 76 #[.pointer none, .int .i64 a, .int .i64 k] w fun e w' => e = .returned (.int .i64 2) ∧ w = w' := by
  go_enter Tryd.func76, Tryd.ntmps76
  go_wp2
  go_ret
  exact ⟨rfl, rfl⟩
theorem left_nil (a k : Int) (w : World) : Calls Tryd.prog 34 #[.pointer none, .int .i64 a, .int .i64 k, .nilFunc] w fun e w' => e = .returned (.tuple #[.int .i64 0, .int .i64 2]) ∧ Below w.heap.size w w' := by
  have HB := Aside0.mk (below_alloc (Below.refl w.heap.size w) (.cells #[.pointer none] 56))
  go_enter Tryd.func34, Tryd.ntmps34
  go_wp2_with fail
  refine (check_nil _ _ _).mono ?_
  rintro e w1 ⟨rfl, rfl⟩
  go_wp2
  go_ret2
  exact ⟨rfl, Below.refl _ _⟩
theorem even_nil (a k : Int) (w : World) : Calls Tryd.prog 35 #[.pointer none, .int .i64 a, .int .i64 k, .nilFunc] w fun e w' => e = .returned (.tuple #[.int .i64 0, .int .i64 2]) ∧ Below w.heap.size w w' := by
  have HB := Aside0.mk (below_alloc (Below.refl w.heap.size w) (.cells #[.pointer none] 56))
  go_enter Tryd.func35, Tryd.ntmps35
  go_wp2_with fail
  refine (check_nil _ _ _).mono ?_
  rintro e w1 ⟨rfl, rfl⟩
  go_wp2
  go_ret2
  exact ⟨rfl, Below.refl _ _⟩
theorem open_nil (a k : Int) (w : World) : Calls Tryd.prog 36 #[.pointer none, .int .i64 a, .int .i64 k, .nilFunc] w fun e w' => e = .returned (.tuple #[.int .i64 0, .int .i64 2]) ∧ Below w.heap.size w w' := by
  have HB := Aside0.mk (below_alloc (Below.refl w.heap.size w) (.cells #[.pointer none] 56))
  go_enter Tryd.func36, Tryd.ntmps36
  go_wp2_with fail
  refine (check_nil _ _ _).mono ?_
  rintro e w1 ⟨rfl, rfl⟩
  go_wp2
  go_ret2
  exact ⟨rfl, HB.out⟩
/-- The texts' numbers. -/
def txl (l : List ByteArray) (x : Int) : ByteArray := if x ≤ 0 then ⟨#[]⟩ else l.getD (x.toNat - 1) ByteArray.empty
theorem txl_zero (l : List ByteArray) : txl l 0 = ⟨#[]⟩ := rfl
theorem txl_at (l : List ByteArray) (i : Nat) : txl l ((i : Int) + 1) = l.getD i ByteArray.empty := by
  unfold txl
  rw [if_neg (by omega), show ((i : Int) + 1).toNat - 1 = i by omega]
theorem even_all {g : Gap} (hl : 24 ≤ g.xs.length) : keys (ons (evenR 24 0 3 g).g.on (evenR 24 0 3 g).g.xs 24) = plK (cntF g.on 24) 3 0 3 ∧ vals (ons (evenR 24 0 3 g).g.on (evenR 24 0 3 g).g.xs 24) = vals (ons g.on g.xs 24) ∧ cntF (evenR 24 0 3 g).g.on 24 = cntF g.on 24 := by
  have hF := evenF (f := 0) (k := 3) hl (by omega) (by omega)
  have hc : cntF g.on (8 * 0 + 8 * 3) - cntF g.on (8 * 0) = cntF g.on 24 := rfl
  rw [hc] at hF
  refine ⟨?_, hF.items, cnt_items hF.items⟩
  rw [← hF.here]
  symm
  rw [List.filter_eq_self]
  intro x hx
  obtain ⟨j, j1, _, rfl⟩ := keys_mem.1 hx
  unfold inB
  rw [decide_eq_true (by omega), decide_eq_true (by omega)]
  rfl
abbrev T0 : Unit → List Mv → List Ob := fun _ _ => []
theorem tell0 : HS.Tell7 .nilFunc T0 := ⟨rfl, fun _ _ _ => rfl⟩
section
variable {w : World} {A B : Option Addr} {c d : Nat} {l : List ByteArray} {on : List Int} {x0 x1 : Int}
set_option maxRecDepth 100000 in
set_option maxHeartbeats 2000000 in
theorem law_no (hT : Tb w) (h : 24 < l.length ∨ 60 < on.length) :
    Calls Tryd.prog 6 #[.slice A l.length c, .slice B on.length d, .agg #[.int .i64 x0, .int .i64 x1]] w fun e w' => e = .returned (.bool true) ∧ Below w.heap.size w w' := by
  by_cases h1 : 24 < l.length
  · clear h
    have HT := Aside0.mk hT
    have HS := Aside0.mk ((Sep.nil w).new_blk #[.int .i64 x0, .int .i64 x1] 46)
    clear hT
    go_enter Tryd.func6, Tryd.ntmps6
    have c0 : (_ : Option Value) = some (.int .i64 x0) := (blk_cell (HS.out.blk 0 rfl) 0).trans rfl
    have c1 : (_ : Option Value) = some (.int .i64 x1) := (blk_cell (HS.out.blk 0 rfl) 1).trans rfl
    go_wp2_with fail
    refine (left_nil _ _ _).mono ?_
    clear c0 c1
    rintro e w1 ⟨rfl, hb⟩
    replace HS := Aside0.mk (HS.out.step hb)
    clear hb
    have c0 : (_ : Option Value) = some (.int .i64 x0) := (blk_cell (HS.out.blk 0 rfl) 0).trans rfl
    have c1 : (_ : Option Value) = some (.int .i64 x1) := (blk_cell (HS.out.blk 0 rfl) 1).trans rfl
    go_wp2_with fail
    refine (even_nil _ _ _).mono ?_
    clear c0 c1
    rintro e w2 ⟨rfl, hb⟩
    replace HS := Aside0.mk (HS.out.step hb)
    clear hb
    have c0 : (_ : Option Value) = some (.int .i64 x0) := (blk_cell (HS.out.blk 0 rfl) 0).trans rfl
    have c1 : (_ : Option Value) = some (.int .i64 x1) := (blk_cell (HS.out.blk 0 rfl) 1).trans rfl
    go_wp2_with fail
    refine (open_nil _ _ _).mono ?_
    clear c0 c1
    rintro e w3 ⟨rfl, hb⟩
    replace HS := Aside0.mk (HS.out.step hb)
    clear hb
    have C := Aside0.mk (awake_any _ (Kd.C_below HT.out HS.out.below))
    go_wp2_with fail
    refine C.out.mono ?_
    clear C
    rintro e w30 ⟨rfl, hb⟩
    replace HS := Aside0.mk (HS.out.step hb)
    clear hb
    go_wp2
    (try rw [Exit.noGoto_ret])
    go_ret
    exact ⟨rfl, HS.out.below⟩
  · have h2 : 60 < on.length := by omega
    clear h
    have HT := Aside0.mk hT
    have HS := Aside0.mk ((Sep.nil w).new_blk #[.int .i64 x0, .int .i64 x1] 46)
    clear hT
    go_enter Tryd.func6, Tryd.ntmps6
    have c0 : (_ : Option Value) = some (.int .i64 x0) := (blk_cell (HS.out.blk 0 rfl) 0).trans rfl
    have c1 : (_ : Option Value) = some (.int .i64 x1) := (blk_cell (HS.out.blk 0 rfl) 1).trans rfl
    go_wp2_with fail
    refine (left_nil _ _ _).mono ?_
    clear c0 c1
    rintro e w1 ⟨rfl, hb⟩
    replace HS := Aside0.mk (HS.out.step hb)
    clear hb
    have c0 : (_ : Option Value) = some (.int .i64 x0) := (blk_cell (HS.out.blk 0 rfl) 0).trans rfl
    have c1 : (_ : Option Value) = some (.int .i64 x1) := (blk_cell (HS.out.blk 0 rfl) 1).trans rfl
    go_wp2_with fail
    refine (even_nil _ _ _).mono ?_
    clear c0 c1
    rintro e w2 ⟨rfl, hb⟩
    replace HS := Aside0.mk (HS.out.step hb)
    clear hb
    have c0 : (_ : Option Value) = some (.int .i64 x0) := (blk_cell (HS.out.blk 0 rfl) 0).trans rfl
    have c1 : (_ : Option Value) = some (.int .i64 x1) := (blk_cell (HS.out.blk 0 rfl) 1).trans rfl
    go_wp2_with fail
    refine (open_nil _ _ _).mono ?_
    clear c0 c1
    rintro e w3 ⟨rfl, hb⟩
    replace HS := Aside0.mk (HS.out.step hb)
    clear hb
    have C := Aside0.mk (awake_any _ (Kd.C_below HT.out HS.out.below))
    go_wp2_with fail
    refine C.out.mono ?_
    clear C
    rintro e w30 ⟨rfl, hb⟩
    replace HS := Aside0.mk (HS.out.step hb)
    clear hb
    go_wp2
    (try rw [Exit.noGoto_ret])
    go_ret
    exact ⟨rfl, HS.out.below⟩
set_option maxRecDepth 100000 in
set_option maxHeartbeats 4000000 in
theorem law_yes (hT : Tb w) (hr : Kd.C Kd.string w A l.length l) (ho : Kd.C (Kd.int .i64) w B on.length on) (h1 : l.length ≤ 24) (h2 : on.length ≤ 60) :
    Calls Tryd.prog 6 #[.slice A l.length c, .slice B on.length d, .agg #[.int .i64 x0, .int .i64 x1]] w fun e w' => e = .returned (.bool true) ∧ Below w.heap.size w w' := by
  have HR := Aside0.mk hr
  have HO := Aside0.mk ho
  clear hr ho
  have HT := Aside0.mk hT
  have HS := Aside0.mk ((Sep.nil w).new_blk #[.int .i64 x0, .int .i64 x1] 46)
  clear hT
  go_enter Tryd.func6, Tryd.ntmps6
  have c0 : (_ : Option Value) = some (.int .i64 x0) := (blk_cell (HS.out.blk 0 rfl) 0).trans rfl
  have c1 : (_ : Option Value) = some (.int .i64 x1) := (blk_cell (HS.out.blk 0 rfl) 1).trans rfl
  go_wp2_with fail
  refine (left_nil _ _ _).mono ?_
  clear c0 c1
  rintro e w1 ⟨rfl, hb⟩
  replace HS := Aside0.mk (HS.out.step hb)
  clear hb
  have c0 : (_ : Option Value) = some (.int .i64 x0) := (blk_cell (HS.out.blk 0 rfl) 0).trans rfl
  have c1 : (_ : Option Value) = some (.int .i64 x1) := (blk_cell (HS.out.blk 0 rfl) 1).trans rfl
  go_wp2_with fail
  refine (even_nil _ _ _).mono ?_
  clear c0 c1
  rintro e w2 ⟨rfl, hb⟩
  replace HS := Aside0.mk (HS.out.step hb)
  clear hb
  have c0 : (_ : Option Value) = some (.int .i64 x0) := (blk_cell (HS.out.blk 0 rfl) 0).trans rfl
  have c1 : (_ : Option Value) = some (.int .i64 x1) := (blk_cell (HS.out.blk 0 rfl) 1).trans rfl
  go_wp2_with fail
  refine (open_nil _ _ _).mono ?_
  clear c0 c1
  rintro e w3 ⟨rfl, hb⟩
  replace HS := Aside0.mk (HS.out.step hb)
  clear hb
  have C := Aside0.mk (gnew_yes (txl_zero l) 24 w3 (by omega) (by omega))
  change Aside0 (Calls _ _ #[.int .i64 24] _ _) at C
  go_wp2_with fail
  refine C.out.mono ?_
  clear C
  rintro e w4 ⟨p, sb, ob, wb, rfl, h4, hs, hb⟩
  have HS : Aside0 (Sep w w4 [S1.Blk w.heap.size #[.int .i64 x0, .int .i64 x1] 46, ArrS (txl l) p sb ob wb 24 ⟨fun _ => false, List.replicate 24 0⟩]) := ⟨sep_new HS.out hb ⟨_, hs⟩ h4⟩
  clear h4 hs hb
  go_wp2
  go_loopg [16] (on.length + 1) (fun kq v16 W => ∃ (i : Nat) (g : Gap), v16 = .int .i64 (i : Int) ∧ i ≤ on.length ∧ Aside0 (on.length + 1 - i ≤ kq) ∧ Aside0 (Sep w W [S1.Blk w.heap.size #[.int .i64 x0, .int .i64 x1] 46, ArrS (txl l) p sb ob wb 24 g]))
  case atStart => exact ⟨0, _, rfl, by omega, ⟨by omega⟩, HS⟩
  case round =>
    clear HS
    obtain ⟨i, g, rfl, hi, HQ, HS⟩ := hrel
    by_cases hlt : i < on.length
    · by_cases hlt2 : i < l.length
      · have HC := Aside0.mk hlt
        obtain ⟨ad1, e, hx⟩ := Kd.at_int (Kd.C_below HO.out HS.out.below) (i : Int) (by omega) (by omega)
        cases e
        rw [Int.toNat_natCast] at hx
        obtain ⟨ad2, e, hs⟩ := Kd.at_string (Kd.C_below HR.out HS.out.below) (i : Int) (by omega) (by omega)
        cases e
        have et : rdOf ByteArray.empty l (i : Int) = txl l ((i : Int) + 1) := by rw [txl_at]; rfl
        rw [Int.toNat_natCast, et] at hs
        clear et
        have HZ : Aside0 (∀ W, Below w.heap.size w W → W.cell? (ad1.add i) = some (.int .i64 (rd on (i : Int))) ∧ W.cell? (ad2.add i) = some (.string (txl l ((i : Int) + 1)))) := ⟨fun W hb => by
          obtain ⟨a1, e, hx⟩ := Kd.at_int (Kd.C_below HO.out hb) (i : Int) (by omega) (by omega)
          cases e
          obtain ⟨a2, e, hs⟩ := Kd.at_string (Kd.C_below HR.out hb) (i : Int) (by omega) (by omega)
          cases e
          rw [Int.toNat_natCast, show rdOf ByteArray.empty l (i : Int) = txl l ((i : Int) + 1) by rw [txl_at]; rfl] at hs
          rw [Int.toNat_natCast] at hx
          exact ⟨hx, hs⟩⟩
        generalize rd on (i : Int) = x at hx HZ
        obtain ⟨q1, q2⟩ := ixOf_lt (n := 24) (by omega) x
        obtain ⟨qi, hq⟩ : ∃ qi : Int, ((ixOf 24 x : Nat) : Int) = qi := ⟨_, rfl⟩
        rw [hq] at q2
        have e1 : -24 < x.tmod 24 := Int.lt_tmod_of_pos x (by decide)
        have e2 : x.tmod 24 < 24 := Int.tmod_lt_of_pos x (by decide)
        have q2 : qi = (x.tmod 24 + 24).tmod 24 := q2
        have e3 : x.tmod 24 % 24 = qi := by rw [q2, Int.tmod_eq_emod_of_nonneg (show 0 ≤ x.tmod 24 + 24 by omega), Int.add_emod_right]
        have CP := Aside0.mk (fun (W : World) (hb : Below wr.heap.size wr W) => put_any ((sep_arr HS.out 1 rfl).below hb) qi ((i : Int) + 1))
        have i5 : (i : Int) ≤ 60 := by omega
        have e4 : (IntKind.i64.wrap (x.tmod 24 + 24)).tmod 24 = qi := by rw [IntWalk.i64_in _ (by omega), q2]
        clear q1 q2 hq e3
        rw [← e4] at CP
        clear e4
        go_wp2
        generalize ht : txl l ((i : Int) + 1) = tt at hs HZ CP
        go_region_held3 (fun W => W.cell? (ad1.add i) = some (.int .i64 x) ∧ W.cell? (ad2.add i) = some (.string tt)) (first | exact z5 | exact ⟨hx, hs⟩) (first
          | (go_at_call 38; refine (CP.out _ (below_drew (Below.refl _ _))).mono ?_; rintro e w5 ⟨rfl, h4, h5⟩; have HX := Aside0.mk (sep_turn (HS.out.step (below_drew (Below.refl _ wr))) 1 rfl h5 h4); have z5 := HZ.out _ HX.out.below; clear h4 h5))
        clear CP hx hs e1 e2 HS ht
        have HS := HX
        go_wp2
        go_roundg (on.length - i)
        case measure => have := HQ.out; have := HC.out; omega
        case rel => exact ⟨i + 1, _, by go_num, by have := HC.out; omega, ⟨by omega⟩, HS⟩
      · have hgl : 24 ≤ g.xs.length := (sep_arr HS.out 1 rfl).choose_spec.len
        obtain ⟨ha1, ha2, ha3⟩ := even_all hgl
        obtain ⟨m, hm⟩ : ∃ m, cntF g.on 24 = m := ⟨_, rfl⟩
        have hm24 : m ≤ 24 := by rw [← hm]; exact cntF_le _ _
        obtain ⟨v, hv⟩ : ∃ v, vals (ons g.on g.xs 24) = v := ⟨_, rfl⟩
        have hvl : v.length = m := by rw [← hv, ← hm, vals, List.length_map, ons_length]
        rw [hm] at ha1 ha3
        rw [hv] at ha2
        have HV := Aside0.mk hvl
        have HA1 := Aside0.mk ha1
        have HA2 := Aside0.mk ha2
        have HA3 := Aside0.mk ha3
        have HGL := Aside0.mk hgl
        clear ha1 ha2 ha3 hgl hvl
        obtain ⟨vs, hsl⟩ := sep_arr HS.out 1 rfl
        have C := items_any hsl (Kd.C_below HT.out HS.out.below)
        rw [hv, hm] at C
        have C := Aside0.mk C
        clear hsl vs
        go_wp2_with fail
        refine C.out.mono ?_
        clear C
        rintro e w6 ⟨A1, k1, rfl, hrow, hb⟩
        rw [show m = v.length from HV.out.symm] at hrow
        have HS : Aside0 (Sep w w6 [S1.Blk w.heap.size #[.int .i64 x0, .int .i64 x1] 46, ArrS (txl l) p sb ob wb 24 g, OwnS (txl l) (.slice A1 m k1) v]) := ⟨by
          have h := sep_ownS HS.out hb hrow
          rw [HV.out] at h
          exact h⟩
        clear hrow hb hm hv
        have HS : Aside0 (Sep w w6 (T0 () [] ++ (ArrS (txl l) p sb ob wb 24 g :: [S1.Blk w.heap.size #[.int .i64 x0, .int .i64 x1] 46, OwnS (txl l) (.slice A1 m k1) v]))) := ⟨HS.out.perm (List.Perm.swap _ _ _)⟩
        have C := even_any (s := ()) (f := 0) (k := 3) tell0 HT.out HS.out HGL.out (by decide) (by decide) (by decide)
        obtain ⟨mj, hmj⟩ : ∃ mj : Int, ((evenR 24 0 3 g).ms.length : Int) = mj := ⟨_, rfl⟩
        rw [hmj] at C
        change Calls _ _ #[_, .int .i64 0, .int .i64 3, _] _ _ at C
        have C := Aside0.mk C
        clear hmj
        generalize evenR 24 0 3 g = E at C HA1 HA2 HA3
        go_wp2_with fail
        refine C.out.mono ?_
        clear C
        rintro e w7 ⟨rfl, _, hs1⟩
        have HS : Aside0 (Sep w w7 [S1.Blk w.heap.size #[.int .i64 x0, .int .i64 x1] 46, ArrS (txl l) p sb ob wb 24 E.g, OwnS (txl l) (.slice A1 m k1) v]) := ⟨Sep.perm hs1 (List.Perm.swap _ _ _)⟩
        clear hs1
        obtain ⟨vs, hsl⟩ := sep_arr HS.out 1 rfl
        have C := items_any hsl (Kd.C_below HT.out HS.out.below)
        rw [HA2.out, HA3.out] at C
        have C := Aside0.mk C
        clear hsl vs
        go_wp2_with fail
        refine C.out.mono ?_
        clear C
        rintro e w8 ⟨A2, k2, rfl, hrow, hb⟩
        rw [show m = v.length from HV.out.symm] at hrow
        have HS : Aside0 (Sep w w8 [S1.Blk w.heap.size #[.int .i64 x0, .int .i64 x1] 46, ArrS (txl l) p sb ob wb 24 E.g, OwnS (txl l) (.slice A1 m k1) v, OwnS (txl l) (.slice A2 m k2) v]) := ⟨by
          have h := sep_ownS HS.out hb hrow
          rw [HV.out] at h
          exact h⟩
        clear hrow hb
        have C := spl_any (n := m) (s := 3) (f := 0) (by decide) (by omega) (by decide) w8
        change Calls _ _ #[_, .int .i64 0, .int .i64 3] _ _ at C
        have C := Aside0.mk C
        have HPL := Aside0.mk (pl_len (n := m) (s := 3) 0 (by decide))
        go_wp2_with fail
        refine C.out.mono ?_
        clear C
        rintro e w9 ⟨A3, k3, rfl, g1, g2, _, hb⟩
        replace HS := Aside0.mk (HS.out.step hb)
        have HP3 := Aside0.mk (And.intro g1 g2)
        clear g1 g2 hb
        obtain ⟨vs, hsl⟩ := sep_arr HS.out 1 rfl
        have C := places_any hsl (Kd.C_below HT.out HS.out.below)
        rw [HA1.out, HA3.out] at C
        have C := Aside0.mk C
        clear hsl vs
        go_wp2_with fail
        refine C.out.mono ?_
        clear C
        rintro e w10 ⟨A4, k4, rfl, g1, g2, _, hb⟩
        replace HS := Aside0.mk (HS.out.step hb)
        have C := ints_any g2 g1 (Kd.C_below HP3.out.2 hb) HP3.out.1 (by rw [HPL.out]; omega)
        rw [decide_eq_true rfl] at C
        have C := Aside0.mk C
        clear g1 g2 hb
        go_wp2_with fail
        refine C.out.mono ?_
        clear C
        rintro e w11 ⟨rfl, hd⟩
        replace HS := Aside0.mk (HS.out.step hd.below)
        clear hd
        go_wp2
        go_loopg [23] (m + 1) (fun kq v23 W => ∃ i : Nat, v23 = .int .i64 (i : Int) ∧ i ≤ m ∧ Aside0 (m + 1 - i ≤ kq) ∧ Aside0 (Sep w W [S1.Blk w.heap.size #[.int .i64 x0, .int .i64 x1] 46, ArrS (txl l) p sb ob wb 24 E.g, OwnS (txl l) (.slice A1 m k1) v, OwnS (txl l) (.slice A2 m k2) v]))
        case atStart => exact ⟨0, rfl, by omega, ⟨by omega⟩, HS⟩
        case round =>
          clear HS HQ
          obtain ⟨i, rfl, hi, HQ, HS⟩ := hrel
          by_cases hlt : i < m
          · have HC := Aside0.mk hlt
            obtain ⟨b1, e, y1⟩ := own_cellS HS.out 2 rfl (j := i) (by rw [HV.out]; exact hlt)
            cases e
            obtain ⟨b2, e, y2⟩ := own_cellS HS.out 3 rfl (j := i) (by rw [HV.out]; exact hlt)
            cases e
            generalize txl l (v.getD i 0) = tt at y1 y2
            go_wp2
            go_quiet (fail)
            clear y1 y2
            replace HS := Aside0.mk (HS.out.step (pw_below_drewN (Below.refl _ wr) nq))
            go_wp2
            go_roundg (m - i)
            case measure => have := HQ.out; have := HC.out; omega
            case rel => exact ⟨i + 1, by go_num, by have := HC.out; omega, ⟨by omega⟩, HS⟩
          · obtain rfl : i = m := by omega
            clear hlt
            have C := Aside0.mk (awake_any _ (Kd.C_below HT.out HS.out.below))
            go_wp2_with fail
            refine C.out.mono ?_
            clear C
            rintro e w30 ⟨rfl, hb⟩
            replace HS := Aside0.mk (HS.out.step hb)
            clear hb
            go_wp2
            (try rw [Exit.noGoto_ret])
            go_ret
            exact ⟨rfl, HS.out.below⟩
    · have hgl : 24 ≤ g.xs.length := (sep_arr HS.out 1 rfl).choose_spec.len
      obtain ⟨ha1, ha2, ha3⟩ := even_all hgl
      obtain ⟨m, hm⟩ : ∃ m, cntF g.on 24 = m := ⟨_, rfl⟩
      have hm24 : m ≤ 24 := by rw [← hm]; exact cntF_le _ _
      obtain ⟨v, hv⟩ : ∃ v, vals (ons g.on g.xs 24) = v := ⟨_, rfl⟩
      have hvl : v.length = m := by rw [← hv, ← hm, vals, List.length_map, ons_length]
      rw [hm] at ha1 ha3
      rw [hv] at ha2
      have HV := Aside0.mk hvl
      have HA1 := Aside0.mk ha1
      have HA2 := Aside0.mk ha2
      have HA3 := Aside0.mk ha3
      have HGL := Aside0.mk hgl
      clear ha1 ha2 ha3 hgl hvl
      obtain ⟨vs, hsl⟩ := sep_arr HS.out 1 rfl
      have C := items_any hsl (Kd.C_below HT.out HS.out.below)
      rw [hv, hm] at C
      have C := Aside0.mk C
      clear hsl vs
      go_wp2_with fail
      refine C.out.mono ?_
      clear C
      rintro e w6 ⟨A1, k1, rfl, hrow, hb⟩
      rw [show m = v.length from HV.out.symm] at hrow
      have HS : Aside0 (Sep w w6 [S1.Blk w.heap.size #[.int .i64 x0, .int .i64 x1] 46, ArrS (txl l) p sb ob wb 24 g, OwnS (txl l) (.slice A1 m k1) v]) := ⟨by
        have h := sep_ownS HS.out hb hrow
        rw [HV.out] at h
        exact h⟩
      clear hrow hb hm hv
      have HS : Aside0 (Sep w w6 (T0 () [] ++ (ArrS (txl l) p sb ob wb 24 g :: [S1.Blk w.heap.size #[.int .i64 x0, .int .i64 x1] 46, OwnS (txl l) (.slice A1 m k1) v]))) := ⟨HS.out.perm (List.Perm.swap _ _ _)⟩
      have C := even_any (s := ()) (f := 0) (k := 3) tell0 HT.out HS.out HGL.out (by decide) (by decide) (by decide)
      obtain ⟨mj, hmj⟩ : ∃ mj : Int, ((evenR 24 0 3 g).ms.length : Int) = mj := ⟨_, rfl⟩
      rw [hmj] at C
      change Calls _ _ #[_, .int .i64 0, .int .i64 3, _] _ _ at C
      have C := Aside0.mk C
      clear hmj
      generalize evenR 24 0 3 g = E at C HA1 HA2 HA3
      go_wp2_with fail
      refine C.out.mono ?_
      clear C
      rintro e w7 ⟨rfl, _, hs1⟩
      have HS : Aside0 (Sep w w7 [S1.Blk w.heap.size #[.int .i64 x0, .int .i64 x1] 46, ArrS (txl l) p sb ob wb 24 E.g, OwnS (txl l) (.slice A1 m k1) v]) := ⟨Sep.perm hs1 (List.Perm.swap _ _ _)⟩
      clear hs1
      obtain ⟨vs, hsl⟩ := sep_arr HS.out 1 rfl
      have C := items_any hsl (Kd.C_below HT.out HS.out.below)
      rw [HA2.out, HA3.out] at C
      have C := Aside0.mk C
      clear hsl vs
      go_wp2_with fail
      refine C.out.mono ?_
      clear C
      rintro e w8 ⟨A2, k2, rfl, hrow, hb⟩
      rw [show m = v.length from HV.out.symm] at hrow
      have HS : Aside0 (Sep w w8 [S1.Blk w.heap.size #[.int .i64 x0, .int .i64 x1] 46, ArrS (txl l) p sb ob wb 24 E.g, OwnS (txl l) (.slice A1 m k1) v, OwnS (txl l) (.slice A2 m k2) v]) := ⟨by
        have h := sep_ownS HS.out hb hrow
        rw [HV.out] at h
        exact h⟩
      clear hrow hb
      have C := spl_any (n := m) (s := 3) (f := 0) (by decide) (by omega) (by decide) w8
      change Calls _ _ #[_, .int .i64 0, .int .i64 3] _ _ at C
      have C := Aside0.mk C
      have HPL := Aside0.mk (pl_len (n := m) (s := 3) 0 (by decide))
      go_wp2_with fail
      refine C.out.mono ?_
      clear C
      rintro e w9 ⟨A3, k3, rfl, g1, g2, _, hb⟩
      replace HS := Aside0.mk (HS.out.step hb)
      have HP3 := Aside0.mk (And.intro g1 g2)
      clear g1 g2 hb
      obtain ⟨vs, hsl⟩ := sep_arr HS.out 1 rfl
      have C := places_any hsl (Kd.C_below HT.out HS.out.below)
      rw [HA1.out, HA3.out] at C
      have C := Aside0.mk C
      clear hsl vs
      go_wp2_with fail
      refine C.out.mono ?_
      clear C
      rintro e w10 ⟨A4, k4, rfl, g1, g2, _, hb⟩
      replace HS := Aside0.mk (HS.out.step hb)
      have C := ints_any g2 g1 (Kd.C_below HP3.out.2 hb) HP3.out.1 (by rw [HPL.out]; omega)
      rw [decide_eq_true rfl] at C
      have C := Aside0.mk C
      clear g1 g2 hb
      go_wp2_with fail
      refine C.out.mono ?_
      clear C
      rintro e w11 ⟨rfl, hd⟩
      replace HS := Aside0.mk (HS.out.step hd.below)
      clear hd
      go_wp2
      go_loopg [23] (m + 1) (fun kq v23 W => ∃ i : Nat, v23 = .int .i64 (i : Int) ∧ i ≤ m ∧ Aside0 (m + 1 - i ≤ kq) ∧ Aside0 (Sep w W [S1.Blk w.heap.size #[.int .i64 x0, .int .i64 x1] 46, ArrS (txl l) p sb ob wb 24 E.g, OwnS (txl l) (.slice A1 m k1) v, OwnS (txl l) (.slice A2 m k2) v]))
      case atStart => exact ⟨0, rfl, by omega, ⟨by omega⟩, HS⟩
      case round =>
        clear HS HQ
        obtain ⟨i, rfl, hi, HQ, HS⟩ := hrel
        by_cases hlt : i < m
        · have HC := Aside0.mk hlt
          obtain ⟨b1, e, y1⟩ := own_cellS HS.out 2 rfl (j := i) (by rw [HV.out]; exact hlt)
          cases e
          obtain ⟨b2, e, y2⟩ := own_cellS HS.out 3 rfl (j := i) (by rw [HV.out]; exact hlt)
          cases e
          generalize txl l (v.getD i 0) = tt at y1 y2
          go_wp2
          go_quiet (fail)
          clear y1 y2
          replace HS := Aside0.mk (HS.out.step (pw_below_drewN (Below.refl _ wr) nq))
          go_wp2
          go_roundg (m - i)
          case measure => have := HQ.out; have := HC.out; omega
          case rel => exact ⟨i + 1, by go_num, by have := HC.out; omega, ⟨by omega⟩, HS⟩
        · obtain rfl : i = m := by omega
          clear hlt
          have C := Aside0.mk (awake_any _ (Kd.C_below HT.out HS.out.below))
          go_wp2_with fail
          refine C.out.mono ?_
          clear C
          rintro e w30 ⟨rfl, hb⟩
          replace HS := Aside0.mk (HS.out.step hb)
          clear hb
          go_wp2
          (try rw [Exit.noGoto_ret])
          go_ret
          exact ⟨rfl, HS.out.below⟩
end
theorem law (A : Option Addr) (c : Nat) (l : List ByteArray) {W0 : World} (g : Kd.C Kd.string W0 A l.length l) (B : Option Addr) (d : Nat) (on : List Int) (g1 : Kd.C (Kd.int .i64) W0 B on.length on) (e : on.length ≤ d) (y : on.length * 8 ≤ 140737488351232) (wo : ∀ x ∈ on, (Lit.int .i64 x).wf = true) (x0 : Int) (w0 : (Lit.int .i64 x0).wf = true) (x1 : Int) (w1 : (Lit.int .i64 x1).wf = true) (W : World) (hT : Tb W) (hW : W = W0 := by rfl) :
    Calls Tryd.prog 6 #[.slice A l.length c, .slice B on.length d, .agg #[.int .i64 x0, .int .i64 x1]] W fun e w' => e = .returned (.bool true) ∧ Below W.heap.size W w' := by
  subst hW
  by_cases h : 24 < l.length ∨ 60 < on.length
  · exact law_no hT h
  · exact law_yes hT g g1 (by omega) (by omega)
end Go.Proofs.YtofkkdjbilklcaaDoor.HN
