/- The law BlockAlike walked: it returns true, whatever the keys, the two numbers of bits, the key. -/
import Derived.Test.YthhmiieimfdffaaC12
namespace Go.Proofs.Ythhmiieimfdffaa.C14
open Go.RowKit Go.Proofs.YthhmiieimfdffaaW.PrintWords Go.Proofs.YthhmiieimfdffaaW.PrintLast Go.Proofs.YthhmiieimfdffaaW.PrintMore C1 C2 C3 C4 C5 C6 C7 C8 C9 C10 C11 C12 Q1
set_option linter.unusedVariables false
set_option linter.unusedSimpArgs false

theorem of_some (A0 : Option Addr) (c0 : Nat) (l : List Int) (b : Int) (w : World) (hr : Kd.C (Kd.int .i64) w A0 l.length l) (hc : l.length ≤ c0) (hlen : l.length ≤ 1000000) :
    Calls Try.prog 8 #[.slice A0 l.length c0, .int .i64 b] w fun e w' => ∃ (bi er : Int) (A : Option Addr) (n c : Nat), e = .returned (.tuple #[.agg #[.int .i64 bi, .slice A n c], .int .i64 er]) ∧ Below w.heap.size w w' := by
  cases hb : bitsB b with
  | false => exact (of_range A0 c0 l b w hr hc hb).mono fun e w' h => ⟨_, _, _, _, _, h⟩
  | true =>
    have hb2 := of_decide_eq_true hb
    obtain ⟨n, rfl⟩ := Int.eq_ofNat_of_zero_le (show 0 ≤ b by omega)
    cases h : risingB l with
    | false => exact (of_order A0 c0 l n w hr hc hlen hb h).mono fun e w' h => ⟨_, _, _, _, _, h⟩
    | true => exact (of_yes A0 c0 l n w hr hc hlen (by omega) (by omega) h).mono fun e w' ⟨g, _, h1, _, h2⟩ => ⟨_, _, _, _, _, h1, h2⟩
set_option maxHeartbeats 1000000 in
theorem alike_x (A0 : Option Addr) (c0 : Nat) (l : List Int) (x y key : Int) (w : World) (hr : Kd.C (Kd.int .i64) w A0 l.length l) (hc : l.length ≤ c0) (hlen : l.length ≤ 300) (h : (bitsB x && risingB l) = false) :
    Calls Try.prog 6 #[.slice A0 l.length c0, .agg #[.int .i64 x, .int .i64 y], .int .i64 key] w fun e w' => e = .returned (.bool true) ∧ Below w.heap.size w w' := by
  have HH := Aside0.mk h
  clear h
  have HB := Aside0.mk (below_alloc (Below.refl w.heap.size w) (.cells #[.int .i64 x, .int .i64 y] 42))
  have BT := Aside0.mk (blk_new w (.cells #[.int .i64 x, .int .i64 y] 42))
  have HR := Aside0.mk (Kd.C_below hr HB.out)
  have t0 : (_ : Option Value) = some (.int .i64 x) := (blk_cell BT.out 0).trans rfl
  have t1 : (_ : Option Value) = some (.int .i64 y) := (blk_cell BT.out 1).trans rfl
  clear hr
  go_enter Try.func6, Try.ntmps6
  go_wp2_with fail
  refine (of_no _ _ l x _ HR.out hc (by omega) HH.out).mono ?_
  rintro e x1 ⟨er, rfl, her, hb⟩
  have hb2 := below_alloc hb (.cells #[.int .i64 0, .slice none 0 0] 25)
  replace HB := Aside0.mk (below_step HB.out hb2)
  replace HR := Aside0.mk (Kd.C_below HR.out hb2)
  replace BT := Aside0.mk (blk_below BT.out hb2)
  clear hb hb2
  have he1 : (er != 0) = true := by simpa using her
  replace t0 : (_ : Option Value) = some (.int .i64 x) := (blk_cell BT.out 0).trans rfl
  replace t1 : (_ : Option Value) = some (.int .i64 y) := (blk_cell BT.out 1).trans rfl
  go_wp2_with fail
  refine (of_some _ _ l y _ HR.out hc (by omega)).mono ?_
  rintro e x2 ⟨bi, er2, A, n, c, rfl, hb⟩
  have hb2 := below_alloc hb (.cells #[.int .i64 bi, .slice A n c] 25)
  replace HB := Aside0.mk (below_step HB.out hb2)
  replace HR := Aside0.mk (Kd.C_below HR.out hb2)
  replace BT := Aside0.mk (blk_below BT.out hb2)
  clear hb hb2 t0 t1
  go_wp2_with fail
  refine (awake_any _).mono ?_
  rintro e w1 ⟨rfl, hw⟩
  have hb := hw
  clear hw
  replace HB := Aside0.mk (below_step HB.out hb)
  clear hb
  go_wp2
  go_ret
  exact ⟨rfl, HB.out⟩
set_option maxHeartbeats 1000000 in
theorem alike_y (A0 : Option Addr) (c0 : Nat) (l : List Int) (x : Nat) (y key : Int) (w : World) (hr : Kd.C (Kd.int .i64) w A0 l.length l) (hc : l.length ≤ c0) (hlen : l.length ≤ 300) (h1 : 1 ≤ x) (h2 : x ≤ 10) (h3 : risingB l = true) (h : (bitsB y && risingB l) = false) :
    Calls Try.prog 6 #[.slice A0 l.length c0, .agg #[.int .i64 x, .int .i64 y], .int .i64 key] w fun e w' => e = .returned (.bool true) ∧ Below w.heap.size w w' := by
  have HH := Aside0.mk h
  have HP := Aside0.mk (And.intro h1 (And.intro h2 h3))
  clear h h1 h2 h3
  have HB := Aside0.mk (below_alloc (Below.refl w.heap.size w) (.cells #[.int .i64 x, .int .i64 y] 42))
  have BT := Aside0.mk (blk_new w (.cells #[.int .i64 x, .int .i64 y] 42))
  have HR := Aside0.mk (Kd.C_below hr HB.out)
  have t0 : (_ : Option Value) = some (.int .i64 x) := (blk_cell BT.out 0).trans rfl
  have t1 : (_ : Option Value) = some (.int .i64 y) := (blk_cell BT.out 1).trans rfl
  clear hr
  go_enter Try.func6, Try.ntmps6
  go_wp2_with fail
  refine (of_yes _ _ l x _ HR.out hc (by omega) HP.out.1 HP.out.2.1 HP.out.2.2).mono ?_
  rintro e x1 ⟨g, hg, rfl, hk, hb⟩
  have hb2 := below_alloc hb (.cells #[.int .i64 x, .slice (some ⟨g, 0, none⟩) l.length l.length] 25)
  replace HB := Aside0.mk (below_step HB.out hb2)
  replace HR := Aside0.mk (Kd.C_below HR.out hb2)
  replace BT := Aside0.mk (blk_below BT.out hb2)
  clear hb hb2 hk hg
  replace t0 : (_ : Option Value) = some (.int .i64 x) := (blk_cell BT.out 0).trans rfl
  replace t1 : (_ : Option Value) = some (.int .i64 y) := (blk_cell BT.out 1).trans rfl
  go_wp2_with fail
  refine (of_no _ _ l y _ HR.out hc (by omega) HH.out).mono ?_
  rintro e x2 ⟨er, rfl, her, hb⟩
  have hb2 := below_alloc hb (.cells #[.int .i64 0, .slice none 0 0] 25)
  replace HB := Aside0.mk (below_step HB.out hb2)
  replace HR := Aside0.mk (Kd.C_below HR.out hb2)
  replace BT := Aside0.mk (blk_below BT.out hb2)
  clear hb hb2 t0 t1
  have he1 : (er != 0) = true := by simpa using her
  go_wp2_with fail
  refine (awake_any _).mono ?_
  rintro e w1 ⟨rfl, hw⟩
  have hb := hw
  clear hw
  replace HB := Aside0.mk (below_step HB.out hb)
  clear hb
  go_wp2
  go_ret
  exact ⟨rfl, HB.out⟩
theorem blk_one {n w : Nat} (hw : 0 < w) (h : n ≤ w) : blk n w ≤ 1 := by
  have : ¬ 1 < blk n w := fun hc => by
    have := (lt_blk hw).1 hc
    omega
  omega
theorem blk_many {n w : Nat} (hw : 0 < w) (h : w < n) : 1 < blk n w := (lt_blk hw).2 (by omega)
set_option maxHeartbeats 4000000 in
theorem alike_yes (A0 : Option Addr) (c0 : Nat) (l : List Int) (x y : Nat) (key : Int) (w : World) (hr : Kd.C (Kd.int .i64) w A0 l.length l) (hc : l.length ≤ c0) (hlen : l.length ≤ 300) (h1 : 1 ≤ x) (h2 : x ≤ 10) (h4 : 1 ≤ y) (h5 : y ≤ 10) (h3 : risingB l = true) :
    Calls Try.prog 6 #[.slice A0 l.length c0, .agg #[.int .i64 x, .int .i64 y], .int .i64 key] w fun e w' => e = .returned (.bool true) ∧ Below w.heap.size w w' := by
  have HP := Aside0.mk (And.intro h1 (And.intro h2 (And.intro h4 (And.intro h5 h3))))
  have w1 := (wd_is h1 h2).1
  clear h1 h2 h3 h4 h5
  have HB := Aside0.mk (below_alloc (Below.refl w.heap.size w) (.cells #[.int .i64 x, .int .i64 y] 42))
  have BT := Aside0.mk (blk_new w (.cells #[.int .i64 x, .int .i64 y] 42))
  have HR := Aside0.mk (Kd.C_below hr HB.out)
  have t0 : (_ : Option Value) = some (.int .i64 x) := (blk_cell BT.out 0).trans rfl
  have t1 : (_ : Option Value) = some (.int .i64 y) := (blk_cell BT.out 1).trans rfl
  clear hr
  go_enter Try.func6, Try.ntmps6
  go_wp2_with fail
  refine (of_yes _ _ l x _ HR.out hc (by omega) HP.out.1 HP.out.2.1 HP.out.2.2.2.2).mono ?_
  rintro e x1 ⟨g, hg, rfl, hk, hb⟩
  have hb2 := below_alloc hb (.cells #[.int .i64 x, .slice (some ⟨g, 0, none⟩) l.length l.length] 25)
  replace HB := Aside0.mk (below_step HB.out hb2)
  replace HR := Aside0.mk (Kd.C_below HR.out hb2)
  replace BT := Aside0.mk (blk_below BT.out hb2)
  have XK := Aside0.mk (blk_alloc hk (.cells #[.int .i64 x, .slice (some ⟨g, 0, none⟩) l.length l.length] 25))
  have BX := Aside0.mk (blk_new x1 (.cells #[.int .i64 x, .slice (some ⟨g, 0, none⟩) l.length l.length] 25))
  clear hb hb2 hk hg
  replace t0 : (_ : Option Value) = some (.int .i64 x) := (blk_cell BT.out 0).trans rfl
  replace t1 : (_ : Option Value) = some (.int .i64 y) := (blk_cell BT.out 1).trans rfl
  go_wp2_with fail
  refine (of_yes _ _ l y _ HR.out hc (by omega) HP.out.2.2.1 HP.out.2.2.2.1 HP.out.2.2.2.2).mono ?_
  rintro e x2 ⟨g2, hg, rfl, hk, hb⟩
  have hb2 := below_alloc hb (.cells #[.int .i64 y, .slice (some ⟨g2, 0, none⟩) l.length l.length] 25)
  replace HB := Aside0.mk (below_step HB.out hb2)
  replace HR := Aside0.mk (Kd.C_below HR.out hb2)
  replace BT := Aside0.mk (blk_below BT.out hb2)
  replace XK := Aside0.mk (blk_below XK.out hb2)
  replace BX := Aside0.mk (blk_below BX.out hb2)
  have YK := Aside0.mk (blk_alloc hk (.cells #[.int .i64 y, .slice (some ⟨g2, 0, none⟩) l.length l.length] 25))
  have BY := Aside0.mk (blk_new x2 (.cells #[.int .i64 y, .slice (some ⟨g2, 0, none⟩) l.length l.length] 25))
  clear hb hb2 hk hg t0 t1 BT
  have BX_c0 : (_ : Option Value) = some (.int .i64 x) := (blk_cell BX.out 0).trans rfl
  have BX_c1 : (_ : Option Value) = some (.slice (some ⟨g, 0, none⟩) l.length l.length) := (blk_cell BX.out 1).trans rfl
  have BY_c0 : (_ : Option Value) = some (.int .i64 y) := (blk_cell BY.out 0).trans rfl
  have BY_c1 : (_ : Option Value) = some (.slice (some ⟨g2, 0, none⟩) l.length l.length) := (blk_cell BY.out 1).trans rfl
  have R1 := Aside0.mk (rank_back HP.out.1 HP.out.2.1 g l (by omega) HP.out.2.2.2.2 key)
  have R2 := Aside0.mk (rank_back HP.out.2.2.1 HP.out.2.2.2.1 g2 l (by omega) HP.out.2.2.2.2 key)
  have R3 := Aside0.mk (fun (w : World) (hr : Kd.C (Kd.int .i64) w A0 l.length l) => bisect_yes A0 c0 l key w hr hc (by omega) HP.out.2.2.2.2)
  rw [rankN_less key HP.out.2.2.2.2] at R3
  have R4 := Aside0.mk (fun (w : World) (hk : w.heap[g]? = some (.cells (nums .i64 (layOf l (wd x))).toArray 3 (0, 0))) => Blocks_yes (w := w) (A := some ⟨g, 0, none⟩) (c := (layOf l (wd x)).length) HP.out.1 HP.out.2.1 (by rw [layOf_length]; omega) (C_of_blk hk (by rw [layOf_length]; omega)) (Nat.le_refl _))
  rw [layOf_length] at R4
  generalize (srch (layOf l (wd y)) (wd y) key 0).2 = cy at R2
  generalize less l key = ls at *
  by_cases hn : l.length ≤ wd x
  · rw [compared_one l w1 hn key] at R1
    have hb1 := blk_one w1 hn
    generalize comparedN l key = cx at *
    generalize blk l.length (wd x) = nb at *
    have hd : decide ((nb : Int) > 1) = false := decide_eq_false (by omega)
    have hd2 : decide ((1 : Int) < (nb : Int)) = false := decide_eq_false (by omega)
    clear hn w1
    go_wp2_with fail
    refine (R1.out _ XK.out).mono ?_
    rintro e w1 ⟨rfl, hw⟩
    have hb := hw
    clear hw
    replace HB := Aside0.mk (below_step HB.out hb)
    replace HR := Aside0.mk (Kd.C_below HR.out hb)
    replace XK := Aside0.mk (blk_below XK.out hb)
    replace BX := Aside0.mk (blk_below BX.out hb)
    replace BX_c0 : (_ : Option Value) = some (.int .i64 x) := (blk_cell BX.out 0).trans rfl
    replace BX_c1 : (_ : Option Value) = some (.slice (some ⟨g, 0, none⟩) l.length l.length) := (blk_cell BX.out 1).trans rfl
    replace YK := Aside0.mk (blk_below YK.out hb)
    replace BY := Aside0.mk (blk_below BY.out hb)
    replace BY_c0 : (_ : Option Value) = some (.int .i64 y) := (blk_cell BY.out 0).trans rfl
    replace BY_c1 : (_ : Option Value) = some (.slice (some ⟨g2, 0, none⟩) l.length l.length) := (blk_cell BY.out 1).trans rfl
    clear hb
    go_wp2_with fail
    refine (R2.out _ YK.out).mono ?_
    rintro e w2 ⟨rfl, hw⟩
    have hb := hw
    clear hw
    replace HB := Aside0.mk (below_step HB.out hb)
    replace HR := Aside0.mk (Kd.C_below HR.out hb)
    replace XK := Aside0.mk (blk_below XK.out hb)
    replace BX := Aside0.mk (blk_below BX.out hb)
    replace BX_c0 : (_ : Option Value) = some (.int .i64 x) := (blk_cell BX.out 0).trans rfl
    replace BX_c1 : (_ : Option Value) = some (.slice (some ⟨g, 0, none⟩) l.length l.length) := (blk_cell BX.out 1).trans rfl
    replace YK := Aside0.mk (blk_below YK.out hb)
    replace BY := Aside0.mk (blk_below BY.out hb)
    replace BY_c0 : (_ : Option Value) = some (.int .i64 y) := (blk_cell BY.out 0).trans rfl
    replace BY_c1 : (_ : Option Value) = some (.slice (some ⟨g2, 0, none⟩) l.length l.length) := (blk_cell BY.out 1).trans rfl
    clear hb
    go_wp2_with fail
    refine (R3.out _ HR.out).mono ?_
    rintro e w3 ⟨rfl, hw⟩
    have hb := hw.below
    clear hw
    replace HB := Aside0.mk (below_step HB.out hb)
    replace HR := Aside0.mk (Kd.C_below HR.out hb)
    replace XK := Aside0.mk (blk_below XK.out hb)
    replace BX := Aside0.mk (blk_below BX.out hb)
    replace BX_c0 : (_ : Option Value) = some (.int .i64 x) := (blk_cell BX.out 0).trans rfl
    replace BX_c1 : (_ : Option Value) = some (.slice (some ⟨g, 0, none⟩) l.length l.length) := (blk_cell BX.out 1).trans rfl
    replace YK := Aside0.mk (blk_below YK.out hb)
    replace BY := Aside0.mk (blk_below BY.out hb)
    replace BY_c0 : (_ : Option Value) = some (.int .i64 y) := (blk_cell BY.out 0).trans rfl
    replace BY_c1 : (_ : Option Value) = some (.slice (some ⟨g2, 0, none⟩) l.length l.length) := (blk_cell BY.out 1).trans rfl
    clear hb
    go_wp2_with fail
    refine (R4.out _ XK.out).mono ?_
    rintro e w4 ⟨rfl, hw⟩
    have hb := hw
    clear hw
    replace HB := Aside0.mk (below_step HB.out hb)
    replace HR := Aside0.mk (Kd.C_below HR.out hb)
    replace XK := Aside0.mk (blk_below XK.out hb)
    replace BX := Aside0.mk (blk_below BX.out hb)
    replace BX_c0 : (_ : Option Value) = some (.int .i64 x) := (blk_cell BX.out 0).trans rfl
    replace BX_c1 : (_ : Option Value) = some (.slice (some ⟨g, 0, none⟩) l.length l.length) := (blk_cell BX.out 1).trans rfl
    replace YK := Aside0.mk (blk_below YK.out hb)
    replace BY := Aside0.mk (blk_below BY.out hb)
    replace BY_c0 : (_ : Option Value) = some (.int .i64 y) := (blk_cell BY.out 0).trans rfl
    replace BY_c1 : (_ : Option Value) = some (.slice (some ⟨g2, 0, none⟩) l.length l.length) := (blk_cell BY.out 1).trans rfl
    clear hb
    go_wp2_with fail
    refine (awake_any _).mono ?_
    rintro e w5 ⟨rfl, hw⟩
    have hb := hw
    clear hw
    replace HB := Aside0.mk (below_step HB.out hb)
    replace HR := Aside0.mk (Kd.C_below HR.out hb)
    replace XK := Aside0.mk (blk_below XK.out hb)
    replace BX := Aside0.mk (blk_below BX.out hb)
    replace BX_c0 : (_ : Option Value) = some (.int .i64 x) := (blk_cell BX.out 0).trans rfl
    replace BX_c1 : (_ : Option Value) = some (.slice (some ⟨g, 0, none⟩) l.length l.length) := (blk_cell BX.out 1).trans rfl
    replace YK := Aside0.mk (blk_below YK.out hb)
    replace BY := Aside0.mk (blk_below BY.out hb)
    replace BY_c0 : (_ : Option Value) = some (.int .i64 y) := (blk_cell BY.out 0).trans rfl
    replace BY_c1 : (_ : Option Value) = some (.slice (some ⟨g2, 0, none⟩) l.length l.length) := (blk_cell BY.out 1).trans rfl
    clear hb
    go_wp2
    go_ret
    exact ⟨rfl, HB.out⟩
  · have hb1 := blk_many w1 (show wd x < l.length by omega)
    generalize comparedN l key = cx at *
    generalize (srch (layOf l (wd x)) (wd x) key 0).2 = cc at R1
    generalize blk l.length (wd x) = nb at *
    have hd : decide ((nb : Int) > 1) = true := decide_eq_true (by omega)
    have hd2 : decide ((1 : Int) < (nb : Int)) = true := decide_eq_true (by omega)
    clear hn w1
    go_wp2_with fail
    refine (R1.out _ XK.out).mono ?_
    rintro e w11 ⟨rfl, hw⟩
    have hb := hw
    clear hw
    replace HB := Aside0.mk (below_step HB.out hb)
    replace HR := Aside0.mk (Kd.C_below HR.out hb)
    replace XK := Aside0.mk (blk_below XK.out hb)
    replace BX := Aside0.mk (blk_below BX.out hb)
    replace BX_c0 : (_ : Option Value) = some (.int .i64 x) := (blk_cell BX.out 0).trans rfl
    replace BX_c1 : (_ : Option Value) = some (.slice (some ⟨g, 0, none⟩) l.length l.length) := (blk_cell BX.out 1).trans rfl
    replace YK := Aside0.mk (blk_below YK.out hb)
    replace BY := Aside0.mk (blk_below BY.out hb)
    replace BY_c0 : (_ : Option Value) = some (.int .i64 y) := (blk_cell BY.out 0).trans rfl
    replace BY_c1 : (_ : Option Value) = some (.slice (some ⟨g2, 0, none⟩) l.length l.length) := (blk_cell BY.out 1).trans rfl
    clear hb
    go_wp2_with fail
    refine (R2.out _ YK.out).mono ?_
    rintro e w12 ⟨rfl, hw⟩
    have hb := hw
    clear hw
    replace HB := Aside0.mk (below_step HB.out hb)
    replace HR := Aside0.mk (Kd.C_below HR.out hb)
    replace XK := Aside0.mk (blk_below XK.out hb)
    replace BX := Aside0.mk (blk_below BX.out hb)
    replace BX_c0 : (_ : Option Value) = some (.int .i64 x) := (blk_cell BX.out 0).trans rfl
    replace BX_c1 : (_ : Option Value) = some (.slice (some ⟨g, 0, none⟩) l.length l.length) := (blk_cell BX.out 1).trans rfl
    replace YK := Aside0.mk (blk_below YK.out hb)
    replace BY := Aside0.mk (blk_below BY.out hb)
    replace BY_c0 : (_ : Option Value) = some (.int .i64 y) := (blk_cell BY.out 0).trans rfl
    replace BY_c1 : (_ : Option Value) = some (.slice (some ⟨g2, 0, none⟩) l.length l.length) := (blk_cell BY.out 1).trans rfl
    clear hb
    go_wp2_with fail
    refine (R3.out _ HR.out).mono ?_
    rintro e w13 ⟨rfl, hw⟩
    have hb := hw.below
    clear hw
    replace HB := Aside0.mk (below_step HB.out hb)
    replace HR := Aside0.mk (Kd.C_below HR.out hb)
    replace XK := Aside0.mk (blk_below XK.out hb)
    replace BX := Aside0.mk (blk_below BX.out hb)
    replace BX_c0 : (_ : Option Value) = some (.int .i64 x) := (blk_cell BX.out 0).trans rfl
    replace BX_c1 : (_ : Option Value) = some (.slice (some ⟨g, 0, none⟩) l.length l.length) := (blk_cell BX.out 1).trans rfl
    replace YK := Aside0.mk (blk_below YK.out hb)
    replace BY := Aside0.mk (blk_below BY.out hb)
    replace BY_c0 : (_ : Option Value) = some (.int .i64 y) := (blk_cell BY.out 0).trans rfl
    replace BY_c1 : (_ : Option Value) = some (.slice (some ⟨g2, 0, none⟩) l.length l.length) := (blk_cell BY.out 1).trans rfl
    clear hb
    go_wp2_with fail
    refine (R4.out _ XK.out).mono ?_
    rintro e w14 ⟨rfl, hw⟩
    have hb := hw
    clear hw
    replace HB := Aside0.mk (below_step HB.out hb)
    replace HR := Aside0.mk (Kd.C_below HR.out hb)
    replace XK := Aside0.mk (blk_below XK.out hb)
    replace BX := Aside0.mk (blk_below BX.out hb)
    replace BX_c0 : (_ : Option Value) = some (.int .i64 x) := (blk_cell BX.out 0).trans rfl
    replace BX_c1 : (_ : Option Value) = some (.slice (some ⟨g, 0, none⟩) l.length l.length) := (blk_cell BX.out 1).trans rfl
    replace YK := Aside0.mk (blk_below YK.out hb)
    replace BY := Aside0.mk (blk_below BY.out hb)
    replace BY_c0 : (_ : Option Value) = some (.int .i64 y) := (blk_cell BY.out 0).trans rfl
    replace BY_c1 : (_ : Option Value) = some (.slice (some ⟨g2, 0, none⟩) l.length l.length) := (blk_cell BY.out 1).trans rfl
    clear hb
    go_wp2_with fail
    refine (awake_any _).mono ?_
    rintro e w15 ⟨rfl, hw⟩
    have hb := hw
    clear hw
    replace HB := Aside0.mk (below_step HB.out hb)
    replace HR := Aside0.mk (Kd.C_below HR.out hb)
    replace XK := Aside0.mk (blk_below XK.out hb)
    replace BX := Aside0.mk (blk_below BX.out hb)
    replace BX_c0 : (_ : Option Value) = some (.int .i64 x) := (blk_cell BX.out 0).trans rfl
    replace BX_c1 : (_ : Option Value) = some (.slice (some ⟨g, 0, none⟩) l.length l.length) := (blk_cell BX.out 1).trans rfl
    replace YK := Aside0.mk (blk_below YK.out hb)
    replace BY := Aside0.mk (blk_below BY.out hb)
    replace BY_c0 : (_ : Option Value) = some (.int .i64 y) := (blk_cell BY.out 0).trans rfl
    replace BY_c1 : (_ : Option Value) = some (.slice (some ⟨g2, 0, none⟩) l.length l.length) := (blk_cell BY.out 1).trans rfl
    clear hb
    go_wp2
    go_ret
    exact ⟨rfl, HB.out⟩
theorem any (A0 : Option Addr) (c0 : Nat) (l : List Int) (x y key : Int) (w : World) (hr : Kd.C (Kd.int .i64) w A0 l.length l) (hc : l.length ≤ c0) (hlen : l.length ≤ 100000000000000) :
    Calls Try.prog 6 #[.slice A0 l.length c0, .agg #[.int .i64 x, .int .i64 y], .int .i64 key] w fun e w' => e = .returned (.bool true) ∧ Below w.heap.size w w' := by
  by_cases h2 : 300 < l.length
  · have HB := Aside0.mk (below_alloc (Below.refl w.heap.size w) (.cells #[.int .i64 x, .int .i64 y] 42))
    clear hr
    go_enter Try.func6, Try.ntmps6
    go_wp2_with fail
    refine (awake_any _).mono ?_
    rintro e w21 ⟨rfl, hw⟩
    have hb := hw
    clear hw
    replace HB := Aside0.mk (below_step HB.out hb)
    clear hb
    go_wp2
    go_ret
    exact ⟨rfl, HB.out⟩
  · cases h : (bitsB x && risingB l) with
    | false => exact alike_x A0 c0 l x y key w hr hc (by omega) h
    | true =>
      rw [Bool.and_eq_true] at h
      have hb2 := of_decide_eq_true h.1
      obtain ⟨n, rfl⟩ := Int.eq_ofNat_of_zero_le (show 0 ≤ x by omega)
      cases h' : (bitsB y && risingB l) with
      | false => exact alike_y A0 c0 l n y key w hr hc (by omega) (by omega) (by omega) h.2 h'
      | true =>
        rw [Bool.and_eq_true] at h'
        have hb3 := of_decide_eq_true h'.1
        obtain ⟨m, rfl⟩ := Int.eq_ofNat_of_zero_le (show 0 ≤ y by omega)
        exact alike_yes A0 c0 l n m key w hr hc (by omega) (by omega) (by omega) (by omega) (by omega) h.2
theorem law {W0 : World} (A : Option Addr) (c : Nat) (l : List Int) (g : Kd.C (Kd.int .i64) W0 A l.length l) (hc : l.length ≤ c) (y : l.length * 8 ≤ 140737488351232) (w : ∀ x ∈ l, (Lit.int .i64 x).wf = true)
    (a : Int) (wa : (Lit.int .i64 a).wf = true) (b : Int) (wb : (Lit.int .i64 b).wf = true) (k : Int) (wk : (Lit.int .i64 k).wf = true) (W : World) (hW : W = W0 := by rfl) : Calls Try.prog 6 #[.slice A l.length c, .agg #[.int .i64 a, .int .i64 b], .int .i64 k] W fun e w' => e = .returned (.bool true) ∧ Below W.heap.size W w' := by
  subst hW
  exact any A c l a b k W g hc (by omega)
end Go.Proofs.Ythhmiieimfdffaa.C14
