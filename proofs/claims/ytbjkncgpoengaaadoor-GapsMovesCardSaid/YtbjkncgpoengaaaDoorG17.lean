/- The law GapsMoves walked. -/
import Derived.Test.YtbjkncgpoengaaaDoorG12
import Derived.Test.YtbjkncgpoengaaaDoorG16
import Derived.Test.YtbjkncgpoengaaaDoorK2
namespace Go.Proofs.YtbjkncgpoengaaaDoor.G17
open Go.RowKit Go.Proofs.YtbjkncgpoengaaaDoorW.PrintWords Go.Proofs.YtbjkncgpoengaaaDoorW.PrintLast Go.Proofs.YtbjkncgpoengaaaDoorW.PrintMore G1 G0 Q1 G2 G3 G4 G5 G6 G7 G8 G9 G10 G11 G12 G16
set_option linter.unusedVariables false
set_option linter.unusedSimpArgs false

/-- What a slot tells. -/
def atB (n : Nat) (s : Gap) (i : Int) : Bool := inR n i && s.on i.toNat
def atV (n : Nat) (s : Gap) (i : Int) : Int := if atB n s i then s.xs.getD i.toNat 0 else 0
theorem at_gap {w : World} {p sb ob wb n : Nat} {s : Gap} (h : Is w p sb ob wb n s) (i : Int) : Calls Tryd.prog 27 #[.pointer (some ⟨p, 0, none⟩), .int .i64 i] w fun e w' => e = .returned (.tuple #[.int .i64 (atV n s i), .bool (atB n s i)]) ∧ w = w' := by
  obtain ⟨vs, h⟩ := h
  unfold atV
  by_cases hi : 0 ≤ i ∧ i < n
  · obtain ⟨k, rfl⟩ := Int.eq_ofNat_of_zero_le hi.1
    cases hf : s.on k with
    | true =>
      have e : atB n s (k : Int) = true := by unfold atB inR; rw [decide_eq_true hi, Int.toNat_natCast, hf]; rfl
      rw [e, if_pos rfl, Int.toNat_natCast]
      exact at_on h (by omega) hf
    | false =>
      have e : atB n s (k : Int) = false := by unfold atB inR; rw [decide_eq_true hi, Int.toNat_natCast, hf]; rfl
      rw [e, if_neg (by decide)]
      exact at_off h (.inr (.inr (by rw [Int.toNat_natCast]; exact hf)))
  · have e : atB n s i = false := by unfold atB inR; rw [decide_eq_false hi]; rfl
    rw [e, if_neg (by decide)]
    exact at_off h (by omega)
/-- Two arrays, whose blocks are apart: what changes the first one's leaves the second. -/
theorem is_size {w : World} {p sb ob wb n : Nat} {s : Gap} (h : Is w p sb ob wb n s) : sb < w.heap.size ∧ wb < w.heap.size := by
  obtain ⟨vs, h⟩ := h
  exact ⟨(Array.getElem?_eq_some_iff.1 h.hs).1, (Array.getElem?_eq_some_iff.1 h.bits.hw).1⟩
/-- What a move that is refused tells. -/
theorem three {n : Nat} {g : Gap} {a b : Int} (h : (moveR n g a b != 0) = true) : (moveR n g a b = 14 ∧ (0 ≤ a ∧ a < n ∧ 0 ≤ b ∧ b < n) ∧ atB n g a = false) ∨ (moveR n g a b = 15 ∧ (0 ≤ a ∧ a < n ∧ 0 ≤ b ∧ b < n) ∧ atB n g a = true) ∨ (moveR n g a b = 10 ∧ ¬ (0 ≤ a ∧ a < n ∧ 0 ≤ b ∧ b < n)) := by
  unfold moveR atB inR at *
  by_cases hab : (0 ≤ a ∧ a < n) ∧ 0 ≤ b ∧ b < n
  · rw [decide_eq_true hab.1, decide_eq_true hab.2] at *
    cases hf : g.on a.toNat with
    | false => exact .inl ⟨by simp, by omega, by simp⟩
    | true =>
      cases hf2 : g.on b.toNat with
      | false => simp [hf, hf2] at h
      | true => exact .inr (.inl ⟨by simp, by omega, by simp⟩)
  · refine .inr (.inr ⟨?_, by omega⟩)
    rw [← Bool.decide_and, decide_eq_false hab]
    simp
/-- What a move that is made did. -/
theorem made_move {n : Nat} {g : Gap} {a b : Int} (h : moveR n g a b = 0) : ∃ k m : Nat, a = k ∧ b = m ∧ k < n ∧ m < n ∧ g.on k = true ∧ g.on m = false ∧ moveS n g a b = ⟨upd (upd g.on k false) m true, (g.xs.set k 0).set m (g.xs.getD k 0)⟩ := by
  have hS : moveS n g a b = ⟨upd (upd g.on a.toNat false) b.toNat true, (g.xs.set a.toNat 0).set b.toNat (g.xs.getD a.toNat 0)⟩ := by
    unfold moveS
    rw [if_pos h]
  unfold moveR inR at h
  by_cases hab : (0 ≤ a ∧ a < n) ∧ 0 ≤ b ∧ b < n
  · rw [decide_eq_true hab.1, decide_eq_true hab.2] at h
    obtain ⟨k, rfl⟩ := Int.eq_ofNat_of_zero_le hab.1.1
    obtain ⟨m, rfl⟩ := Int.eq_ofNat_of_zero_le hab.2.1
    rw [Int.toNat_natCast, Int.toNat_natCast] at *
    refine ⟨k, m, rfl, rfl, by omega, by omega, ?_, ?_, hS⟩
    · cases hf : g.on k with
      | true => rfl
      | false => simp [hf] at h
    · cases hf2 : g.on m with
      | false => rfl
      | true => cases hf : g.on k <;> simp [hf, hf2] at h
  · rw [← Bool.decide_and, decide_eq_false hab] at h
    simp at h
/-- The other slots stand. -/
theorem other_at {n k m : Nat} {g : Gap} {i : Nat} (h1 : i ≠ k) (h2 : i ≠ m) : atB n ⟨upd (upd g.on k false) m true, (g.xs.set k 0).set m (g.xs.getD k 0)⟩ i = atB n g i ∧ atV n ⟨upd (upd g.on k false) m true, (g.xs.set k 0).set m (g.xs.getD k 0)⟩ i = atV n g i := by
  have e1 : atB n ⟨upd (upd g.on k false) m true, (g.xs.set k 0).set m (g.xs.getD k 0)⟩ i = atB n g i := by
    unfold atB
    rw [Int.toNat_natCast]
    simp [upd, h1, h2]
  refine ⟨e1, ?_⟩
  unfold atV
  rw [e1, Int.toNat_natCast]
  have e2 : ((g.xs.set k 0).set m (g.xs.getD k 0)).getD i 0 = g.xs.getD i 0 := by
    rw [List.getD_eq_getElem?_getD, List.getElem?_set_ne (by omega), List.getElem?_set_ne (by omega), ← List.getD_eq_getElem?_getD]
  simp only [e2]
theorem cntF_far {f : Nat → Bool} {i : Nat} {b : Bool} : ∀ {n}, n ≤ i → cntF (upd f i b) n = cntF f n := fun h => cntF_congr fun j hj => by simp [upd, show j ≠ i by omega]
theorem cntF_on {f : Nat → Bool} {i : Nat} (hf : f i = false) : ∀ {n}, i < n → cntF (upd f i true) n = cntF f n + 1 := by
  intro n
  induction n with
  | zero => intro h; omega
  | succ n ih =>
    intro h
    simp only [cntF]
    by_cases e : n = i
    · rw [cntF_far (by omega), e, hf]; simp [upd]
    · rw [ih (by omega)]; simp [upd, e]; omega
theorem cntF_off {f : Nat → Bool} {i : Nat} (hf : f i = true) : ∀ {n}, i < n → cntF (upd f i false) n + 1 = cntF f n := by
  intro n
  induction n with
  | zero => intro h; omega
  | succ n ih =>
    intro h
    simp only [cntF]
    by_cases e : n = i
    · rw [cntF_far (by omega), e, hf]; simp [upd]
    · rw [← ih (by omega)]; simp [upd, e]; omega
/-- What holds of an array behind a move that is made. -/
structure Mv (n : Nat) (g g2 : Gap) (k m : Nat) : Prop where
  other : ∀ i : Nat, i ≠ k → i ≠ m → atB n g2 i = atB n g i ∧ atV n g2 i = atV n g i
  b1 : atB n g k = true
  b2 : atB n g m = false
  b3 : atB n g2 k = false
  b4 : atB n g2 m = true
  v : atV n g2 m = atV n g k
  cnt : cntF g2.on n = cntF g.on n
  items : cntF g.on (max k m) = cntF g.on (min k m + 1) → vals (ons g2.on g2.xs n) = vals (ons g.on g.xs n)
theorem mv_made {n k m : Nat} {g : Gap} (hx : g.xs.length = n) (hk : k < n) (hm : m < n) (f1 : g.on k = true) (f2 : g.on m = false) : Mv n g ⟨upd (upd g.on k false) m true, (g.xs.set k 0).set m (g.xs.getD k 0)⟩ k m := by
  have hne : k ≠ m := by rintro rfl; rw [f1] at f2; cases f2
  have rk : inR n (k : Int) = true := decide_eq_true (by omega)
  have rm : inR n (m : Int) = true := decide_eq_true (by omega)
  refine ⟨fun i h1 h2 => other_at h1 h2, ?_, ?_, ?_, ?_, ?_, ?_, fun h => move_items hk hm hx f1 f2 h⟩
  · unfold atB; rw [rk, Int.toNat_natCast, f1]; rfl
  · unfold atB; rw [rm, Int.toNat_natCast, f2]; rfl
  · unfold atB; rw [rk, Int.toNat_natCast]; simp [upd, hne]
  · unfold atB; rw [rm, Int.toNat_natCast]; simp [upd]
  · unfold atV atB
    rw [rk, rm, Int.toNat_natCast, Int.toNat_natCast, f1]
    have u4 : ((g.xs.set k 0).set m (g.xs.getD k 0)).getD m 0 = g.xs.getD k 0 := by
      rw [List.getD_eq_getElem?_getD, List.getElem?_set_self (by rw [List.length_set]; omega)]
      rfl
    simp only [u4]
    simp [upd]
  · have h1 : upd g.on k false m = false := by simp [upd, f2]
    have h2 := cntF_on h1 hm
    have h3 := cntF_off f1 hk
    show cntF (upd (upd g.on k false) m true) n = cntF g.on n
    omega
set_option maxRecDepth 100000 in
theorem moves_no (n a b : Int) (A : Option Addr) (c : Nat) (l : List Cal) (w : World) (hT : Tb w) (h : n < 1 ∨ 200 < n ∨ 100 < l.length) :
    Calls Tryd.prog 7 #[.int .i64 n, .slice A l.length c, .agg #[.int .i64 a, .int .i64 b]] w fun e w' => e = .returned (.bool true) ∧ Below w.heap.size w w' := by
  have HB := Aside0.mk (below_alloc (Below.refl w.heap.size w) (.cells #[.int .i64 a, .int .i64 b] 30))
  have HT := Aside0.mk (Kd.C_below hT HB.out)
  clear hT
  go_enter Tryd.func7, Tryd.ntmps7
  by_cases h1 : n < 1
  · clear h
    go_wp2_with fail
    refine (awake_any _ HT.out).mono ?_
    rintro e w1 ⟨rfl, hw⟩
    have hb := hw
    clear hw
    replace HB := Aside0.mk (below_step HB.out hb)
    clear hb
    go_wp2
    go_ret
    exact ⟨rfl, HB.out⟩
  · by_cases h2 : 200 < n
    · clear h
      go_wp2_with fail
      refine (awake_any _ HT.out).mono ?_
      rintro e w2 ⟨rfl, hw⟩
      have hb := hw
      clear hw
      replace HB := Aside0.mk (below_step HB.out hb)
      clear hb
      go_wp2
      go_ret
      exact ⟨rfl, HB.out⟩
    · have h3 : 100 < l.length := by omega
      clear h
      go_wp2_with fail
      refine (awake_any _ HT.out).mono ?_
      rintro e w3 ⟨rfl, hw⟩
      have hb := hw
      clear hw
      replace HB := Aside0.mk (below_step HB.out hb)
      clear hb
      go_wp2
      go_ret
      exact ⟨rfl, HB.out⟩
set_option maxRecDepth 100000 in
set_option maxHeartbeats 1000000 in
theorem moves_yes (n : Nat) (a b : Int) (A : Option Addr) (c : Nat) (l : List Cal) (w : World) (hT : Tb w) (hr : Kd.C kAct w A l.length l) (h1 : 1 ≤ n) (h2 : n ≤ 200) (h3 : l.length ≤ 100) :
    Calls Tryd.prog 7 #[.int .i64 n, .slice A l.length c, .agg #[.int .i64 a, .int .i64 b]] w fun e w' => e = .returned (.bool true) ∧ Below w.heap.size w w' := by
  have HB := Aside0.mk (below_alloc (Below.refl w.heap.size w) (.cells #[.int .i64 a, .int .i64 b] 30))
  have HT := Aside0.mk hT
  have BT := Aside0.mk (blk_new w (.cells #[.int .i64 a, .int .i64 b] 30))
  have HR := Aside0.mk (Kd.C_below hr HB.out)
  clear hr hT
  go_enter Tryd.func7, Tryd.ntmps7
  go_wp2_with fail
  refine (made_yes h1 (by omega) HR.out (by omega)).mono ?_
  rintro e w1 ⟨p, sb, ob, wb, rfl, hF, hb⟩
  have HS := Aside0.mk hF.2
  have hz := (Array.getElem?_eq_some_iff.1 BT.out).1
  have H4 := Aside0.mk (show w.heap.size < sb ∧ w.heap.size < wb by have := hF.1; omega)
  clear hz
  replace HB := Aside0.mk (below_step HB.out hb)
  replace BT := Aside0.mk (blk_below BT.out hb)
  replace HR := Aside0.mk (Kd.C_below HR.out hb)
  clear hF hb
  go_wp2_with fail
  refine (made_yes h1 (by omega) HR.out (by omega)).mono ?_
  rintro e w2 ⟨p2, sb2, ob2, wb2, rfl, hF, hb⟩
  have HW := Aside0.mk hF.2
  have HZ := is_size HS.out
  have AP := Aside0.mk (show ¬ Mine sb wb p2 ∧ ¬ Mine sb wb sb2 ∧ ¬ Mine sb wb ob2 ∧ ¬ Mine sb wb wb2 by
    have := hF.1
    refine ⟨?_, ?_, ?_, ?_⟩ <;> (rintro (rfl | rfl) <;> omega))
  replace HS := Aside0.mk (Is.below HS.out hb)
  replace HB := Aside0.mk (below_step HB.out hb)
  replace BT := Aside0.mk (blk_below BT.out hb)
  clear hF hb HR HZ
  generalize runL n l = g at *
  have t0 : (_ : Option Value) = some (.int .i64 a) := (blk_cell BT.out 0).trans rfl
  have t1 : (_ : Option Value) = some (.int .i64 b) := (blk_cell BT.out 1).trans rfl
  go_wp2_with fail
  refine (at_gap HS.out a).mono ?_
  rintro e w3 ⟨rfl, rfl⟩
  go_wp2_with fail
  refine (move_any HS.out a b).mono ?_
  clear HS
  rintro e w3 ⟨rfl, hs, ho⟩
  have HS := Aside0.mk hs
  replace HW := Aside0.mk (Is.only HW.out ho AP.out.1 AP.out.2.1 AP.out.2.2.1 AP.out.2.2.2)
  replace HB := Aside0.mk (ho.below HB.out HB.out.size (fun k hk => by have := H4.out; rcases hk with rfl | rfl <;> omega))
  replace BT := Aside0.mk (ho.blk BT.out (by have := H4.out; rintro (e | e) <;> omega))
  clear hs ho t0 t1
  have t0 : (_ : Option Value) = some (.int .i64 a) := (blk_cell BT.out 0).trans rfl
  have t1 : (_ : Option Value) = some (.int .i64 b) := (blk_cell BT.out 1).trans rfl
  cases hr : moveR n g a b != 0
  · obtain ⟨k, m, rfl, rfl, hk, hm, f1, f2, em⟩ := made_move (n := n) (g := g) (a := a) (b := b) (by simpa using hr)
    have hne : k ≠ m := by rintro rfl; rw [f1] at f2; cases f2
    rw [em] at HS
    have hx : g.xs.length = n := by obtain ⟨vs, hs⟩ := HW.out; exact hs.len
    have MV := Aside0.mk (mv_made hx hk hm f1 f2)
    generalize (⟨upd (upd g.on k false) m true, (g.xs.set k 0).set m (g.xs.getD k 0)⟩ : Gap) = g2 at *
    rw [MV.out.b1, ← MV.out.v]
    clear em f1 f2 hx
    go_wp2
    go_loopg [12] n (fun kq v12 w' => ∃ i : Nat, v12 = .int .i64 i ∧ i ≤ n ∧ Aside0 (n - i ≤ kq) ∧ Aside0 (Is w' p sb ob wb n g2) ∧ Aside0 (Is w' p2 sb2 ob2 wb2 n g) ∧ Aside0 (Below w.heap.size w w') ∧ Aside0 (w'.heap[w.heap.size]? = some (.cells #[.int .i64 k, .int .i64 m] 30 (0, 0))))
    case atStart => exact ⟨0, rfl, by omega, ⟨by omega⟩, HS, HW, HB, BT⟩
    case round =>
      clear HS HW HB BT t0 t1
      obtain ⟨i, rfl, hi, HQ, HS, HW, HB, BT⟩ := hrel
      have t0 : (_ : Option Value) = some (.int .i64 k) := (blk_cell BT.out 0).trans rfl
      have t1 : (_ : Option Value) = some (.int .i64 m) := (blk_cell BT.out 1).trans rfl
      by_cases hlt : i < n
      · obtain ⟨gk, rfl⟩ : ∃ m, gk = m + 1 := ⟨gk - 1, by have := HQ.out; omega⟩
        go_wp2_with fail
        refine (at_gap HS.out i).mono ?_
        rintro e x1 ⟨rfl, rfl⟩
        go_wp2_with fail
        refine (at_gap HW.out i).mono ?_
        rintro e x1 ⟨rfl, rfl⟩
        have ST : Aside0 (∃ u : Nat, u = i + 1) := ⟨⟨_, rfl⟩⟩
        by_cases ek : i = k
        · have b1 : ((i : Int) != (k : Int)) = false := by simp [ek]
          have B1 := Aside0.mk ek
          clear ek
          go_wp2
          go_roundg gk
          case measure => omega
          case rel => exact ⟨i + 1, by go_num, by omega, ⟨by have := HQ.out; omega⟩, HS, HW, HB, BT⟩
        · have b1 : ((i : Int) != (k : Int)) = true := by rw [bne_iff_ne]; omega
          by_cases em : i = m
          · have b2 : ((i : Int) != (m : Int)) = false := by simp [em]
            have B2 := Aside0.mk em
            clear em ek
            go_wp2
            go_roundg gk
            case measure => omega
            case rel => exact ⟨i + 1, by go_num, by omega, ⟨by have := HQ.out; omega⟩, HS, HW, HB, BT⟩
          · have b2 : ((i : Int) != (m : Int)) = true := by rw [bne_iff_ne]; omega
            rw [(MV.out.other i ek em).1, (MV.out.other i ek em).2]
            clear em ek
            go_wp2
            go_roundg gk
            case measure => omega
            case rel => exact ⟨i + 1, by go_num, by omega, ⟨by have := HQ.out; omega⟩, HS, HW, HB, BT⟩
      · obtain rfl : n = i := by omega
        clear hlt hi HQ
        go_wp2_with fail
        refine (at_gap HS.out m).mono ?_
        rintro e x1 ⟨rfl, rfl⟩
        go_wp2_with fail
        refine (at_gap HS.out k).mono ?_
        rintro e x1 ⟨rfl, rfl⟩
        go_wp2_with fail
        refine (at_gap HW.out m).mono ?_
        rintro e x1 ⟨rfl, rfl⟩
        rw [MV.out.b2, MV.out.b3, MV.out.b4]
        obtain ⟨vs, hs⟩ := HS.out
        have C1 := Aside0.mk (slen_any hs)
        clear hs
        go_wp2_with fail
        refine C1.out.mono ?_
        rintro e x1 ⟨rfl, hw⟩
        have hb := hw.below
        clear hw C1
        replace HS := Aside0.mk (Is.below HS.out hb)
        replace HW := Aside0.mk (Is.below HW.out hb)
        replace HB := Aside0.mk (below_step HB.out hb)
        replace BT := Aside0.mk (blk_below BT.out hb)
        clear hb t0 t1
        have t0 : (_ : Option Value) = some (.int .i64 k) := (blk_cell BT.out 0).trans rfl
        have t1 : (_ : Option Value) = some (.int .i64 m) := (blk_cell BT.out 1).trans rfl
        rw [MV.out.cnt]
        obtain ⟨vs, hs⟩ := HW.out
        have C1 := Aside0.mk (slen_any hs)
        clear hs
        go_wp2_with fail
        refine C1.out.mono ?_
        rintro e x2 ⟨rfl, hw⟩
        have hb := hw.below
        clear hw C1
        replace HS := Aside0.mk (Is.below HS.out hb)
        replace HW := Aside0.mk (Is.below HW.out hb)
        replace HB := Aside0.mk (below_step HB.out hb)
        replace BT := Aside0.mk (blk_below BT.out hb)
        clear hb t0 t1
        have t0 : (_ : Option Value) = some (.int .i64 k) := (blk_cell BT.out 0).trans rfl
        have t1 : (_ : Option Value) = some (.int .i64 m) := (blk_cell BT.out 1).trans rfl
        rcases Nat.lt_or_gt_of_ne hne with hlt | hlt
        · have q1 : (k : Int) < m := by omega
          have EQ := Aside0.mk (MV.out.items)
          rw [show max k m = m by omega, show min k m = k by omega] at EQ
          have CM := Aside0.mk (cntF_mono g.on (show k + 1 ≤ m by omega))
          obtain ⟨vs, hs⟩ := HW.out
          have C1 := scount_in hs (a := k + 1) (b := m) (by omega) (by omega)
          rw [show ((k + 1 : Nat) : Int) = (k : Int) + 1 by omega] at C1
          have C1 := Aside0.mk C1
          clear hs hne hlt
          go_wp2_with fail
          refine C1.out.mono ?_
          rintro e x3 ⟨rfl, hw⟩
          have hb := hw.below
          clear hw C1
          replace HS := Aside0.mk (Is.below HS.out hb)
          replace HW := Aside0.mk (Is.below HW.out hb)
          replace HB := Aside0.mk (below_step HB.out hb)
          replace BT := Aside0.mk (blk_below BT.out hb)
          clear hb t0 t1
          by_cases hc : cntF g.on m = cntF g.on (k + 1)
          · have EI := EQ.out hc
            rw [show cntF g.on m - cntF g.on (k + 1) = 0 by omega]
            clear hc CM
            obtain ⟨vs, hs⟩ := HS.out
            have C1 := items_any hs (Kd.C_below HT.out HB.out)
            rw [EI, MV.out.cnt] at C1
            have C1 := Aside0.mk C1
            clear hs EI
            go_wp2_with fail
            refine C1.out.mono ?_
            clear C1
            rintro e y1 ⟨A2, c2, rfl, hc2, hC, _, hb⟩
            have HC := Aside0.mk hC
            replace HS := Aside0.mk (Is.below HS.out hb)
            replace HW := Aside0.mk (Is.below HW.out hb)
            replace HB := Aside0.mk (below_step HB.out hb)
            replace BT := Aside0.mk (blk_below BT.out hb)
            clear hb hC
            obtain ⟨vs, hs⟩ := HW.out
            have C1 := Aside0.mk (items_any hs (Kd.C_below HT.out HB.out))
            clear hs
            go_wp2_with fail
            refine C1.out.mono ?_
            clear C1
            rintro e y2 ⟨A3, c3, rfl, hc3, hC, _, hb⟩
            have HC3 := Aside0.mk hC
            replace HC := Aside0.mk (Kd.C_below HC.out hb)
            replace HS := Aside0.mk (Is.below HS.out hb)
            replace HW := Aside0.mk (Is.below HW.out hb)
            replace HB := Aside0.mk (below_step HB.out hb)
            replace BT := Aside0.mk (blk_below BT.out hb)
            clear hb hC
            go_wp2_with fail
            refine (ints_same _ _ A2 c2 A3 c3 _ HC.out hc2 HC3.out hc3 (by have := cntF_le g.on n; omega)).mono ?_
            rintro e y3 ⟨rfl, hw⟩
            have hb := hw.below
            clear hw HC HC3 hc2 hc3
            replace HS := Aside0.mk (Is.below HS.out hb)
            replace HW := Aside0.mk (Is.below HW.out hb)
            replace HB := Aside0.mk (below_step HB.out hb)
            replace BT := Aside0.mk (blk_below BT.out hb)
            clear hb
            go_wp2_with fail
            refine (awake_any _ (Kd.C_below HT.out HB.out)).mono ?_
            rintro e w10 ⟨rfl, hb⟩
            replace HB := Aside0.mk (below_step HB.out hb)
            clear hb
            go_wp2
            go_ret
            exact ⟨rfl, HB.out⟩
          · have z0 : (0 : Int) < ((cntF g.on m - cntF g.on (k + 1) : Nat) : Int) := by have := CM.out; omega
            clear hc
            go_wp2_with fail
            refine (awake_any _ (Kd.C_below HT.out HB.out)).mono ?_
            rintro e w10 ⟨rfl, hb⟩
            replace HB := Aside0.mk (below_step HB.out hb)
            clear hb
            go_wp2
            go_ret
            exact ⟨rfl, HB.out⟩
        · have q1 : ¬ (k : Int) ≤ m := by omega
          have q2 : (m : Int) < k := by omega
          have EQ := Aside0.mk (MV.out.items)
          rw [show max k m = k by omega, show min k m = m by omega] at EQ
          have CM := Aside0.mk (cntF_mono g.on (show m + 1 ≤ k by omega))
          obtain ⟨vs, hs⟩ := HW.out
          have C1 := scount_in hs (a := m + 1) (b := k) (by omega) (by omega)
          rw [show ((m + 1 : Nat) : Int) = (m : Int) + 1 by omega] at C1
          have C1 := Aside0.mk C1
          clear hs hne hlt
          go_wp2_with fail
          refine C1.out.mono ?_
          rintro e x3 ⟨rfl, hw⟩
          have hb := hw.below
          clear hw C1
          replace HS := Aside0.mk (Is.below HS.out hb)
          replace HW := Aside0.mk (Is.below HW.out hb)
          replace HB := Aside0.mk (below_step HB.out hb)
          replace BT := Aside0.mk (blk_below BT.out hb)
          clear hb t0 t1
          by_cases hc : cntF g.on k = cntF g.on (m + 1)
          · have EI := EQ.out hc
            rw [show cntF g.on k - cntF g.on (m + 1) = 0 by omega]
            clear hc CM
            obtain ⟨vs, hs⟩ := HS.out
            have C1 := items_any hs (Kd.C_below HT.out HB.out)
            rw [EI, MV.out.cnt] at C1
            have C1 := Aside0.mk C1
            clear hs EI
            go_wp2_with fail
            refine C1.out.mono ?_
            clear C1
            rintro e y1 ⟨A2, c2, rfl, hc2, hC, _, hb⟩
            have HC := Aside0.mk hC
            replace HS := Aside0.mk (Is.below HS.out hb)
            replace HW := Aside0.mk (Is.below HW.out hb)
            replace HB := Aside0.mk (below_step HB.out hb)
            replace BT := Aside0.mk (blk_below BT.out hb)
            clear hb hC
            obtain ⟨vs, hs⟩ := HW.out
            have C1 := Aside0.mk (items_any hs (Kd.C_below HT.out HB.out))
            clear hs
            go_wp2_with fail
            refine C1.out.mono ?_
            clear C1
            rintro e y2 ⟨A3, c3, rfl, hc3, hC, _, hb⟩
            have HC3 := Aside0.mk hC
            replace HC := Aside0.mk (Kd.C_below HC.out hb)
            replace HS := Aside0.mk (Is.below HS.out hb)
            replace HW := Aside0.mk (Is.below HW.out hb)
            replace HB := Aside0.mk (below_step HB.out hb)
            replace BT := Aside0.mk (blk_below BT.out hb)
            clear hb hC
            go_wp2_with fail
            refine (ints_same _ _ A2 c2 A3 c3 _ HC.out hc2 HC3.out hc3 (by have := cntF_le g.on n; omega)).mono ?_
            rintro e y3 ⟨rfl, hw⟩
            have hb := hw.below
            clear hw HC HC3 hc2 hc3
            replace HS := Aside0.mk (Is.below HS.out hb)
            replace HW := Aside0.mk (Is.below HW.out hb)
            replace HB := Aside0.mk (below_step HB.out hb)
            replace BT := Aside0.mk (blk_below BT.out hb)
            clear hb
            go_wp2_with fail
            refine (awake_any _ (Kd.C_below HT.out HB.out)).mono ?_
            rintro e w10 ⟨rfl, hb⟩
            replace HB := Aside0.mk (below_step HB.out hb)
            clear hb
            go_wp2
            go_ret
            exact ⟨rfl, HB.out⟩
          · have z0 : (0 : Int) < ((cntF g.on k - cntF g.on (m + 1) : Nat) : Int) := by have := CM.out; omega
            clear hc
            go_wp2_with fail
            refine (awake_any _ (Kd.C_below HT.out HB.out)).mono ?_
            rintro e w10 ⟨rfl, hb⟩
            replace HB := Aside0.mk (below_step HB.out hb)
            clear hb
            go_wp2
            go_ret
            exact ⟨rfl, HB.out⟩
  · have eg : moveS n g a b = g := by
      unfold moveS
      rw [if_neg (by simpa using hr)]
    rw [eg] at HS
    clear eg
    obtain ⟨vs, hs⟩ := HS.out
    go_wp2_with fail
    refine (items_any hs (Kd.C_below HT.out HB.out)).mono ?_
    clear hs
    rintro e w4 ⟨A2, c2, rfl, hc2, hC, _, hb⟩
    have HC := Aside0.mk hC
    replace HS := Aside0.mk (Is.below HS.out hb)
    replace HW := Aside0.mk (Is.below HW.out hb)
    replace HB := Aside0.mk (below_step HB.out hb)
    replace BT := Aside0.mk (blk_below BT.out hb)
    clear hb hC
    obtain ⟨vs, hs⟩ := HW.out
    go_wp2_with fail
    refine (items_any hs (Kd.C_below HT.out HB.out)).mono ?_
    clear hs
    rintro e w5 ⟨A3, c3, rfl, hc3, hC, _, hb⟩
    have HC3 := Aside0.mk hC
    replace HC := Aside0.mk (Kd.C_below HC.out hb)
    replace HS := Aside0.mk (Is.below HS.out hb)
    replace HW := Aside0.mk (Is.below HW.out hb)
    replace HB := Aside0.mk (below_step HB.out hb)
    replace BT := Aside0.mk (blk_below BT.out hb)
    clear hb hC
    go_wp2_with fail
    refine (ints_same _ _ A2 c2 A3 c3 _ HC.out hc2 HC3.out hc3 (by have := cntF_le g.on n; omega)).mono ?_
    rintro e w6 ⟨rfl, hw⟩
    have hb := hw.below
    clear hw HC HC3 hc2 hc3
    replace HS := Aside0.mk (Is.below HS.out hb)
    replace HW := Aside0.mk (Is.below HW.out hb)
    replace HB := Aside0.mk (below_step HB.out hb)
    replace BT := Aside0.mk (blk_below BT.out hb)
    clear hb
    obtain ⟨vs, hs⟩ := HS.out
    go_wp2_with fail
    refine (places_any hs (Kd.C_below HT.out HB.out)).mono ?_
    clear hs
    rintro e w7 ⟨A2, c2, rfl, hc2, hC, _, hb⟩
    have HC := Aside0.mk hC
    replace HS := Aside0.mk (Is.below HS.out hb)
    replace HW := Aside0.mk (Is.below HW.out hb)
    replace HB := Aside0.mk (below_step HB.out hb)
    replace BT := Aside0.mk (blk_below BT.out hb)
    clear hb hC
    obtain ⟨vs, hs⟩ := HW.out
    go_wp2_with fail
    refine (places_any hs (Kd.C_below HT.out HB.out)).mono ?_
    clear hs
    rintro e w8 ⟨A3, c3, rfl, hc3, hC, _, hb⟩
    have HC3 := Aside0.mk hC
    replace HC := Aside0.mk (Kd.C_below HC.out hb)
    replace HS := Aside0.mk (Is.below HS.out hb)
    replace HW := Aside0.mk (Is.below HW.out hb)
    replace HB := Aside0.mk (below_step HB.out hb)
    replace BT := Aside0.mk (blk_below BT.out hb)
    clear hb hC
    go_wp2_with fail
    refine (ints_same _ _ A2 c2 A3 c3 _ HC.out hc2 HC3.out hc3 (by have := cntF_le g.on n; omega)).mono ?_
    rintro e w9 ⟨rfl, hw⟩
    have hb := hw.below
    clear hw HC HC3 hc2 hc3
    replace HS := Aside0.mk (Is.below HS.out hb)
    replace HW := Aside0.mk (Is.below HW.out hb)
    replace HB := Aside0.mk (below_step HB.out hb)
    replace BT := Aside0.mk (blk_below BT.out hb)
    clear hb
    clear t0 t1
    have t0 : (_ : Option Value) = some (.int .i64 a) := (blk_cell BT.out 0).trans rfl
    have t1 : (_ : Option Value) = some (.int .i64 b) := (blk_cell BT.out 1).trans rfl
    rcases three hr with ⟨er, hab, ha⟩ | ⟨er, hab, ha⟩ | ⟨er, hab⟩
    · rw [er, ha]
      obtain ⟨y1, y2, y3, y4⟩ := hab
      clear er ha
      go_wp2_with fail
      refine (awake_any _ (Kd.C_below HT.out HB.out)).mono ?_
      rintro e w10 ⟨rfl, hb⟩
      replace HB := Aside0.mk (below_step HB.out hb)
      clear hb
      go_wp2
      go_ret
      exact ⟨rfl, HB.out⟩
    · rw [er, ha]
      clear er ha hab
      go_wp2_with fail
      refine (awake_any _ (Kd.C_below HT.out HB.out)).mono ?_
      rintro e w10 ⟨rfl, hb⟩
      replace HB := Aside0.mk (below_step HB.out hb)
      clear hb
      go_wp2
      go_ret
      exact ⟨rfl, HB.out⟩
    · rw [er]
      clear er
      cases hB : atB n g a
      · by_cases y1 : 0 ≤ a
        · by_cases y2 : a < n
          · by_cases y3 : 0 ≤ b
            · have y4 : decide (b < (n : Int)) = false := decide_eq_false fun c => hab ⟨y1, y2, y3, c⟩
              clear hab
              go_wp2_with fail
              refine (awake_any _ (Kd.C_below HT.out HB.out)).mono ?_
              rintro e w10 ⟨rfl, hb⟩
              replace HB := Aside0.mk (below_step HB.out hb)
              clear hb
              go_wp2
              go_ret
              exact ⟨rfl, HB.out⟩
            · clear hab
              go_wp2_with fail
              refine (awake_any _ (Kd.C_below HT.out HB.out)).mono ?_
              rintro e w10 ⟨rfl, hb⟩
              replace HB := Aside0.mk (below_step HB.out hb)
              clear hb
              go_wp2
              go_ret
              exact ⟨rfl, HB.out⟩
          · clear hab
            go_wp2_with fail
            refine (awake_any _ (Kd.C_below HT.out HB.out)).mono ?_
            rintro e w10 ⟨rfl, hb⟩
            replace HB := Aside0.mk (below_step HB.out hb)
            clear hb
            go_wp2
            go_ret
            exact ⟨rfl, HB.out⟩
        · clear hab
          go_wp2_with fail
          refine (awake_any _ (Kd.C_below HT.out HB.out)).mono ?_
          rintro e w10 ⟨rfl, hb⟩
          replace HB := Aside0.mk (below_step HB.out hb)
          clear hb
          go_wp2
          go_ret
          exact ⟨rfl, HB.out⟩
      · clear hab
        go_wp2_with fail
        refine (awake_any _ (Kd.C_below HT.out HB.out)).mono ?_
        rintro e w10 ⟨rfl, hb⟩
        replace HB := Aside0.mk (below_step HB.out hb)
        clear hb
        go_wp2
        go_ret
        exact ⟨rfl, HB.out⟩
theorem law (n : Int) (wn : (Lit.int .i64 n).wf = true) (A : Option Addr) (c : Nat) (l : List Cal) {W0 : World} (g : Kd.C kAct W0 A l.length l) (a : Int) (wa : (Lit.int .i64 a).wf = true) (b : Int) (wb : (Lit.int .i64 b).wf = true) (W : World) (hT : Tb W) (hW : W = W0 := by rfl) :
    Calls Tryd.prog 7 #[.int .i64 n, .slice A l.length c, .agg #[.int .i64 a, .int .i64 b]] W fun e w' => e = .returned (.bool true) ∧ Below W.heap.size W w' := by
  subst hW
  by_cases h : n < 1 ∨ 200 < n ∨ 100 < l.length
  · exact moves_no n a b A c l W hT h
  · obtain ⟨m, rfl⟩ := Int.eq_ofNat_of_zero_le (show 0 ≤ n by omega)
    exact moves_yes m a b A c l W hT g (by omega) (by omega) (by omega)
end Go.Proofs.YtbjkncgpoengaaaDoor.G17
