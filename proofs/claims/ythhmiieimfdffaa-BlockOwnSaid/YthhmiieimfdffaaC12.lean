/- The law BlockBack walked: it returns true, whatever the keys, the bits, the key. -/
import Derived.Test.YthhmiieimfdffaaC11
namespace Go.Proofs.Ythhmiieimfdffaa.C12
open Go.RowKit Go.Proofs.YthhmiieimfdffaaW.PrintWords Go.Proofs.YthhmiieimfdffaaW.PrintLast Go.Proofs.YthhmiieimfdffaaW.PrintMore C1 C2 C3 C4 C5 C6 C7 C8 C9 C10 C11 Q1
set_option linter.unusedVariables false
set_option linter.unusedSimpArgs false

theorem of_no (A0 : Option Addr) (c0 : Nat) (l : List Int) (b : Int) (w : World) (hr : Kd.C (Kd.int .i64) w A0 l.length l) (hc : l.length ≤ c0) (hlen : l.length ≤ 1000000) (h : (bitsB b && risingB l) = false) :
    Calls Try.prog 8 #[.slice A0 l.length c0, .int .i64 b] w fun e w' => ∃ er : Int, e = .returned (.tuple #[.agg #[.int .i64 0, .slice none 0 0], .int .i64 er]) ∧ er ≠ 0 ∧ Below w.heap.size w w' := by
  cases hb : bitsB b with
  | false => exact (of_range A0 c0 l b w hr hc hb).mono fun e w' h => ⟨10, h.1, by decide, h.2⟩
  | true =>
    rw [hb, Bool.true_and] at h
    exact (of_order A0 c0 l b w hr hc hlen hb h).mono fun e w' h => ⟨18, h.1, by decide, h.2⟩
theorem sorted_back {b : Nat} (h1 : 1 ≤ b) (h2 : b ≤ 10) (g : Nat) (r : List Int) (h : r.length ≤ 1000) (W : World) (hx : W.heap[g]? = some (.cells (nums .i64 (layOf r (wd b))).toArray 3 (0, 0))) :
    Calls Try.prog 9 #[.agg #[.int .i64 b, .slice (some ⟨g, 0, none⟩) r.length r.length]] W fun e w' => ∃ g', e = .returned (.tuple #[.slice (some ⟨g', 0, none⟩) r.length r.length, .int .i64 0]) ∧ W.heap.size ≤ g' ∧ w'.heap[g']? = some (.cells (nums .i64 r).toArray 3 (0, 0)) ∧ Below W.heap.size W w' := by
  have ll := layOf_length r (wd b)
  have XC := C_of_blk hx (by omega)
  have SO := sorted_any (some ⟨g, 0, none⟩) (layOf r (wd b)).length (layOf r (wd b)) b h1 h2 W XC (Nat.le_refl _) (by omega)
  rw [ll, sorted_lay r (wd_is h1 h2).1] at SO
  exact SO.mono fun e w' ⟨g', a1, a2, a3, a4⟩ => ⟨g', a2, a1, a3, a4⟩
theorem rank_back {b : Nat} (h1 : 1 ≤ b) (h2 : b ≤ 10) (g : Nat) (r : List Int) (h : r.length ≤ 1000) (hr : risingB r = true) (key : Int) (W : World) (hx : W.heap[g]? = some (.cells (nums .i64 (layOf r (wd b))).toArray 3 (0, 0))) :
    Calls Try.prog 17 #[.agg #[.int .i64 b, .slice (some ⟨g, 0, none⟩) r.length r.length], .int .i64 key] W fun e w' => e = .returned (.tuple #[.int .i64 (less r key), .int .i64 (srch (layOf r (wd b)) (wd b) key 0).2, .int .i64 0]) ∧ Below W.heap.size W w' := by
  have ll := layOf_length r (wd b)
  have XC := C_of_blk hx (by omega)
  have SO := rank_yes h1 h2 (some ⟨g, 0, none⟩) (layOf r (wd b)).length (layOf r (wd b)) key W XC (Nat.le_refl _) (by omega)
  rw [ll, srch_lay r (wd_is h1 h2).1 hr] at SO
  exact SO
theorem less_take (l : List Int) (key : Int) (i : Nat) (hi : i < l.length) : less (l.take (i + 1)) key = less (l.take i) key + (if l.getD i 0 < key then 1 else 0) := by
  unfold less
  rw [List.take_succ_eq_append_getElem hi, List.countP_append]
  simp [List.countP_cons, hi]
theorem less_le (l : List Int) (key : Int) : less l key ≤ l.length := by unfold less; exact List.countP_le_length

set_option maxHeartbeats 1000000 in
theorem back_no (A0 : Option Addr) (c0 : Nat) (l : List Int) (b key : Int) (w : World) (hr : Kd.C (Kd.int .i64) w A0 l.length l) (hc : l.length ≤ c0) (hlen : l.length ≤ 300) (h : (bitsB b && risingB l) = false) :
    Calls Try.prog 4 #[.slice A0 l.length c0, .int .i64 b, .int .i64 key] w fun e w' => e = .returned (.bool true) ∧ Below w.heap.size w w' := by
  have HR := Aside0.mk hr
  have HB := Aside0.mk (Below.refl w.heap.size w)
  have HH := Aside0.mk h
  clear hr h
  go_enter Try.func4, Try.ntmps4
  go_wp2_with fail
  refine (of_no _ _ l b _ HR.out hc (by omega) HH.out).mono ?_
  rintro e x1 ⟨er, rfl, her, hb⟩
  replace HB := Aside0.mk (below_step HB.out (below_alloc hb (.cells #[.int .i64 0, .slice none 0 0] 25)))
  have BK := Aside0.mk (blk_new x1 (.cells #[.int .i64 0, .slice none 0 0] 25))
  clear hb HR
  have he1 : (er != 0) = true := by simpa using her
  have BK_c0 : (_ : Option Value) = some (.int .i64 0) := (blk_cell BK.out 0).trans rfl
  have BK_c1 : (_ : Option Value) = some (.slice none 0 0) := (blk_cell BK.out 1).trans rfl
  go_wp2_with fail
  refine (awake_any _).mono ?_
  rintro e w1 ⟨rfl, hw⟩
  have hb := hw
  clear hw
  replace HB := Aside0.mk (below_step HB.out hb)
  replace BK := Aside0.mk (blk_below BK.out hb)
  replace BK_c0 : (_ : Option Value) = some (.int .i64 0) := (blk_cell BK.out 0).trans rfl
  replace BK_c1 : (_ : Option Value) = some (.slice none 0 0) := (blk_cell BK.out 1).trans rfl
  clear hb
  go_wp2
  go_ret
  exact ⟨rfl, HB.out⟩
set_option maxHeartbeats 4000000 in
theorem back_yes (A0 : Option Addr) (c0 : Nat) (l : List Int) (b : Nat) (h1 : 1 ≤ b) (h2 : b ≤ 10) (key : Int) (w : World) (hr : Kd.C (Kd.int .i64) w A0 l.length l) (hc : l.length ≤ c0) (hlen : l.length ≤ 300) (h : risingB l = true) :
    Calls Try.prog 4 #[.slice A0 l.length c0, .int .i64 b, .int .i64 key] w fun e w' => e = .returned (.bool true) ∧ Below w.heap.size w w' := by
  have HR := Aside0.mk hr
  have HB := Aside0.mk (Below.refl w.heap.size w)
  have HH := Aside0.mk h
  have HP := Aside0.mk (And.intro h1 h2)
  clear hr h h1 h2
  go_enter Try.func4, Try.ntmps4
  go_wp2_with fail
  refine (of_yes _ _ l b _ HR.out hc (by omega) HP.out.1 HP.out.2 HH.out).mono ?_
  rintro e x1 ⟨g, hg2, rfl, hk, hb⟩
  replace HR := Aside0.mk (Kd.C_below HR.out (below_alloc hb (.cells #[.int .i64 b, .slice (some ⟨g, 0, none⟩) l.length l.length] 25)))
  replace HB := Aside0.mk (below_step HB.out (below_alloc hb (.cells #[.int .i64 b, .slice (some ⟨g, 0, none⟩) l.length l.length] 25)))
  have BK := Aside0.mk (blk_new x1 (.cells #[.int .i64 b, .slice (some ⟨g, 0, none⟩) l.length l.length] 25))
  have XK := Aside0.mk (blk_alloc hk (.cells #[.int .i64 b, .slice (some ⟨g, 0, none⟩) l.length l.length] 25))
  clear hb hk hg2
  have BK_c0 : (_ : Option Value) = some (.int .i64 b) := (blk_cell BK.out 0).trans rfl
  have BK_c1 : (_ : Option Value) = some (.slice (some ⟨g, 0, none⟩) l.length l.length) := (blk_cell BK.out 1).trans rfl
  go_wp2_with fail
  refine (sorted_back HP.out.1 HP.out.2 g l (by omega) _ XK.out).mono ?_
  rintro e x2 ⟨g3, rfl, hg3, hk, hb⟩
  replace HR := Aside0.mk (Kd.C_below HR.out hb)
  replace HB := Aside0.mk (below_step HB.out hb)
  replace BK := Aside0.mk (blk_below BK.out hb)
  replace XK := Aside0.mk (blk_below XK.out hb)
  have SK := Aside0.mk hk
  clear hb hg3 hk
  have BK_c0 : (_ : Option Value) = some (.int .i64 b) := (blk_cell BK.out 0).trans rfl
  have BK_c1 : (_ : Option Value) = some (.slice (some ⟨g, 0, none⟩) l.length l.length) := (blk_cell BK.out 1).trans rfl
  have RB := Aside0.mk (rank_back HP.out.1 HP.out.2 g l (by omega) HH.out)
  generalize hcmp : (fun key => (srch (layOf l (wd b)) (wd b) key 0).2) = cmp
  have RC : Aside0 (∀ key (W : World), W.heap[g]? = some (.cells (nums .i64 (layOf l (wd b))).toArray 3 (0, 0)) → Calls Try.prog 17 #[.agg #[.int .i64 b, .slice (some ⟨g, 0, none⟩) l.length l.length], .int .i64 key] W fun e w' => e = .returned (.tuple #[.int .i64 (less l key), .int .i64 (cmp key), .int .i64 0]) ∧ Below W.heap.size W w') := ⟨by rw [← hcmp]; exact RB.out⟩
  clear hcmp RB
  go_wp2_with fail
  refine (RC.out key _ XK.out).mono ?_
  rintro e w1 ⟨rfl, hw⟩
  have hb := hw
  clear hw
  replace HR := Aside0.mk (Kd.C_below HR.out hb)
  replace HB := Aside0.mk (below_step HB.out hb)
  replace XK := Aside0.mk (blk_below XK.out hb)
  replace BK := Aside0.mk (blk_below BK.out hb)
  replace BK_c0 : (_ : Option Value) = some (.int .i64 b) := (blk_cell BK.out 0).trans rfl
  replace BK_c1 : (_ : Option Value) = some (.slice (some ⟨g, 0, none⟩) l.length l.length) := (blk_cell BK.out 1).trans rfl
  replace SK := Aside0.mk (blk_below SK.out hb)
  clear hb
  go_wp2
  go_loopg [14, 15] l.length (fun kq v14 v15 w' => ∃ i : Nat, v15 = .int .i64 i ∧ i ≤ l.length ∧ v14 = .int .i64 (less (l.take i) key) ∧ Aside0 (kq = l.length - i) ∧ Aside0 (Kd.C (Kd.int .i64) w' A0 l.length l) ∧ Aside0 (Below w.heap.size w w') ∧ Aside0 (w'.heap[g]? = some (.cells (nums .i64 (layOf l (wd b))).toArray 3 (0, 0))) ∧ Aside0 (w'.heap[x1.heap.size]? = some (.cells #[.int .i64 b, .slice (some ⟨g, 0, none⟩) l.length l.length] 25 (0, 0))) ∧ Aside0 (w'.heap[g3]? = some (.cells (nums .i64 l).toArray 3 (0, 0))))
  case atStart => exact ⟨0, rfl, by omega, rfl, ⟨by omega⟩, HR, HB, XK, BK, SK⟩
  case round =>
    clear HR HB XK BK SK BK_c0 BK_c1
    obtain ⟨i, rfl, hi, rfl, HQ, HR, HB, XK, BK, SK⟩ := hrel
    have BK_c0 : (_ : Option Value) = some (.int .i64 b) := (blk_cell BK.out 0).trans rfl
    have BK_c1 : (_ : Option Value) = some (.slice (some ⟨g, 0, none⟩) l.length l.length) := (blk_cell BK.out 1).trans rfl
    by_cases hil : i < l.length
    · obtain ⟨ad, e, hx⟩ := Kd.at_int HR.out (i : Int) (by omega) (by omega)
      cases e
      rw [Int.toNat_natCast, show rd l (i : Int) = l.getD i 0 from rfl] at hx
      have RO := Aside0.mk (RC.out (l.getD i 0) _ (blk_drew XK.out))
      rw [less_own HH.out i hil] at RO
      have LT := Aside0.mk (less_take l key i hil)
      have hle := less_le (l.take i) key
      rw [List.length_take] at hle
      generalize cmp (l.getD i 0) = cv at *
      generalize l.getD i 0 = y at *
      generalize less (l.take i) key = lt at *
      by_cases hy : y < key
      · have hq := 0
        have hd : decide (y < key) = true := decide_eq_true hy
        have E1 := LT.out
        rw [if_pos hy] at E1
        replace E1 := Aside0.mk E1
        go_wp2
        go_region_with (go_at_call 17; (with_reducible refine RO.out.mono ?_); rintro e y1 ⟨rfl, hb⟩; have HZ := Aside0.mk hb; clear hb)
        all_goals
          have hR := Kd.C_below (Kd.C_drew HR.out) HZ.out
          have hB := below_step (below_drew HB.out) HZ.out
          have hX := blk_below (blk_drew XK.out) HZ.out
          have hK := blk_below (blk_drew BK.out) HZ.out
          have hS := blk_below (blk_drew SK.out) HZ.out
          have HH2 := Aside0.mk (And.intro hR (And.intro hB (And.intro hX (And.intro hK hS))))
          clear hR hB hX hK hS
          go_wp2
          go_roundg (l.length - (i + 1))
          case measure => have := HQ.out; omega
          case rel => exact ⟨i + 1, by go_num, by omega, by rw [E1.out]; go_num, ⟨rfl⟩, ⟨HH2.out.1⟩, ⟨HH2.out.2.1⟩, ⟨HH2.out.2.2.1⟩, ⟨HH2.out.2.2.2.1⟩, ⟨HH2.out.2.2.2.2⟩⟩
      · have hq := 0
        have hd : decide (y < key) = false := decide_eq_false hy
        have E1 := LT.out
        rw [if_neg hy] at E1
        replace E1 := Aside0.mk E1
        go_wp2
        go_region_with (go_at_call 17; (with_reducible refine RO.out.mono ?_); rintro e y1 ⟨rfl, hb⟩; have HZ := Aside0.mk hb; clear hb)
        all_goals
          have hR := Kd.C_below (Kd.C_drew HR.out) HZ.out
          have hB := below_step (below_drew HB.out) HZ.out
          have hX := blk_below (blk_drew XK.out) HZ.out
          have hK := blk_below (blk_drew BK.out) HZ.out
          have hS := blk_below (blk_drew SK.out) HZ.out
          have HH2 := Aside0.mk (And.intro hR (And.intro hB (And.intro hX (And.intro hK hS))))
          clear hR hB hX hK hS
          go_wp2
          go_roundg (l.length - (i + 1))
          case measure => have := HQ.out; omega
          case rel => exact ⟨i + 1, by go_num, by omega, by rw [E1.out]; rfl, ⟨rfl⟩, ⟨HH2.out.1⟩, ⟨HH2.out.2.1⟩, ⟨HH2.out.2.2.1⟩, ⟨HH2.out.2.2.2.1⟩, ⟨HH2.out.2.2.2.2⟩⟩
    · have e : i = l.length := by omega
      subst e
      rw [List.take_length]
      have HE := Aside0.mk (fun (w : World) (hk : w.heap[g3]? = some (.cells (nums .i64 l).toArray 3 (0, 0))) (hr : Kd.C (Kd.int .i64) w A0 l.length l) => ints_same l.length l (some ⟨g3, 0, none⟩) l.length A0 c0 w (C_of_blk hk (by omega)) (Nat.le_refl _) hr hc rfl (by omega))
      go_wp2_with fail
      refine (HE.out _ SK.out HR.out).mono ?_
      rintro e w2 ⟨rfl, hw⟩
      have hb := hw.below
      clear hw
      replace HR := Aside0.mk (Kd.C_below HR.out hb)
      replace HB := Aside0.mk (below_step HB.out hb)
      replace XK := Aside0.mk (blk_below XK.out hb)
      replace BK := Aside0.mk (blk_below BK.out hb)
      replace BK_c0 : (_ : Option Value) = some (.int .i64 b) := (blk_cell BK.out 0).trans rfl
      replace BK_c1 : (_ : Option Value) = some (.slice (some ⟨g, 0, none⟩) l.length l.length) := (blk_cell BK.out 1).trans rfl
      replace SK := Aside0.mk (blk_below SK.out hb)
      clear hb
      go_wp2_with fail
      refine (awake_any _).mono ?_
      rintro e w3 ⟨rfl, hw⟩
      have hb := hw
      clear hw
      replace HR := Aside0.mk (Kd.C_below HR.out hb)
      replace HB := Aside0.mk (below_step HB.out hb)
      replace XK := Aside0.mk (blk_below XK.out hb)
      replace BK := Aside0.mk (blk_below BK.out hb)
      replace BK_c0 : (_ : Option Value) = some (.int .i64 b) := (blk_cell BK.out 0).trans rfl
      replace BK_c1 : (_ : Option Value) = some (.slice (some ⟨g, 0, none⟩) l.length l.length) := (blk_cell BK.out 1).trans rfl
      replace SK := Aside0.mk (blk_below SK.out hb)
      clear hb
      go_wp2
      go_ret
      exact ⟨rfl, HB.out⟩
theorem any (A0 : Option Addr) (c0 : Nat) (l : List Int) (b key : Int) (w : World) (hr : Kd.C (Kd.int .i64) w A0 l.length l) (hc : l.length ≤ c0) (hlen : l.length ≤ 100000000000000) :
    Calls Try.prog 4 #[.slice A0 l.length c0, .int .i64 b, .int .i64 key] w fun e w' => e = .returned (.bool true) ∧ Below w.heap.size w w' := by
  by_cases h2 : 300 < l.length
  · have HB := Aside0.mk (Below.refl w.heap.size w)
    clear hr
    go_enter Try.func4, Try.ntmps4
    go_wp2_with fail
    refine (awake_any _).mono ?_
    rintro e w1 ⟨rfl, hb⟩
    go_wp2
    go_ret
    exact ⟨rfl, hb⟩
  · cases h : (bitsB b && risingB l) with
    | false => exact back_no A0 c0 l b key w hr hc (by omega) h
    | true =>
      rw [Bool.and_eq_true] at h
      have hb2 := of_decide_eq_true h.1
      obtain ⟨n, rfl⟩ := Int.eq_ofNat_of_zero_le (show 0 ≤ b by omega)
      exact back_yes A0 c0 l n (by omega) (by omega) key w hr hc (by omega) h.2
theorem law {W0 : World} (A : Option Addr) (c : Nat) (l : List Int) (g : Kd.C (Kd.int .i64) W0 A l.length l) (hc : l.length ≤ c) (y : l.length * 8 ≤ 140737488351232) (w : ∀ x ∈ l, (Lit.int .i64 x).wf = true)
    (a : Int) (wa : (Lit.int .i64 a).wf = true) (k : Int) (wk : (Lit.int .i64 k).wf = true) (W : World) (hW : W = W0 := by rfl) : Calls Try.prog 4 #[.slice A l.length c, .int .i64 a, .int .i64 k] W fun e w' => e = .returned (.bool true) ∧ Below W.heap.size W w' := by
  subst hW
  exact any A c l a k W g hc (by omega)
end Go.Proofs.Ythhmiieimfdffaa.C12
