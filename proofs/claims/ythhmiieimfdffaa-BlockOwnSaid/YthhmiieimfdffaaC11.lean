/- The law's examples; the law BlockLays walked: it returns true, whatever the keys, the bits. -/
import Derived.Test.YthhmiieimfdffaaC10
namespace Go.Proofs.Ythhmiieimfdffaa.C11
open Go.RowKit Go.Proofs.YthhmiieimfdffaaW.PrintWords Go.Proofs.YthhmiieimfdffaaW.PrintLast Go.Proofs.YthhmiieimfdffaaW.PrintMore C1 C2 C3 C4 C5 C6 C7 C8 C9 C10 Q1
set_option linter.unusedVariables false
set_option linter.unusedSimpArgs false

theorem lit_reads (w : World) (l : List Int) (h : l.length ≤ 1000) : Kd.C (Kd.int .i64) (w.alloc (.cells (l.map (Value.int .i64)).toArray 3)) (some ⟨w.heap.size, 0, none⟩) l.length l := by
  refine ⟨rfl, by omega, fun _ => ⟨_, rfl, fun j p hp => ⟨[.int .i64 p], rfl, rfl, fun i u hu => ?_⟩⟩⟩
  obtain ⟨rfl, rfl⟩ : i = 0 ∧ u = .int .i64 p := by
    cases i with
    | zero => exact ⟨rfl, by simpa using hu.symm⟩
    | succ i => simp at hu
  rw [add_plain]
  refine (cell_of_row (w.alloc (.cells (l.map (Value.int .i64)).toArray 3)) w.heap.size _ _ 3 (0, 0) (blk_new w _)).trans ?_
  show (List.map (Value.int .i64) l).toArray[j * 1 + 0]? = _
  simp [hp]
theorem ord_one : ord 8 3 1 = [3, 4, 5] := by
  rw [ord_in ⟨by decide, by decide⟩, show sz 8 3 1 = 0 + 1 + 1 + 1 by decide, part_succ, part_succ, part_succ, part_zero, ord_out (i := kid 3 1 + 0) (by decide), ord_out (i := kid 3 1 + (0 + 1)) (by decide), ord_out (i := kid 3 1 + (0 + 1 + 1)) (by decide), ord_out (i := kid 3 1 + (0 + 1 + 1 + 1)) (by decide)]
  rfl
theorem ord_two : ord 8 3 2 = [6, 7] := by
  rw [ord_in ⟨by decide, by decide⟩, show sz 8 3 2 = 0 + 1 + 1 by decide, part_succ, part_succ, part_zero, ord_out (i := kid 3 2 + 0) (by decide), ord_out (i := kid 3 2 + (0 + 1)) (by decide), ord_out (i := kid 3 2 + (0 + 1 + 1)) (by decide)]
  rfl
theorem ord_eight : ord 8 3 0 = [3, 4, 5, 0, 6, 7, 1, 2] := by
  rw [ord_in ⟨by decide, by decide⟩, show sz 8 3 0 = 0 + 1 + 1 + 1 by decide, part_succ, part_succ, part_succ, part_zero, show kid 3 0 + 0 = 1 by decide, show kid 3 0 + (0 + 1) = 2 by decide, ord_one, ord_two, ord_out (i := kid 3 0 + (0 + 1 + 1)) (by decide), ord_out (i := kid 3 0 + (0 + 1 + 1 + 1)) (by decide)]
  rfl
theorem lay_eight : layOf [1, 2, 3, 4, 5, 6, 7, 8] (wd 2) = [4, 7, 8, 1, 2, 3, 5, 6] := by
  show fill _ (ord 8 3 0) 0 _ = _
  rw [ord_eight]
  decide
theorem srch_eight : srch [4, 7, 8, 1, 2, 3, 5, 6] (wd 2) 6 0 = (5, 4) := by
  have e1 : cnt 8 3 1 = 3 := by unfold cnt; rw [ord_one]; rfl
  have h1 : srch [4, 7, 8, 1, 2, 3, 5, 6] 3 6 9 = (0, 0) := srch_out (by decide)
  have h0 : srch [4, 7, 8, 1, 2, 3, 5, 6] 3 6 10 = (0, 0) := srch_out (by decide)
  have h2 : srch [4, 7, 8, 1, 2, 3, 5, 6] 3 6 2 = (1, 2) := by
    rw [srch_in ⟨by decide, by decide⟩]
    have a : rankN (blkOf [4, 7, 8, 1, 2, 3, 5, 6] 3 2) 6 = 1 := by decide
    have b : comparedN (blkOf [4, 7, 8, 1, 2, 3, 5, 6] 3 2) 6 = 2 := by decide
    rw [a, b, show kid 3 2 + 1 = 10 by decide, h0]
    have : cnt 8 3 9 = 0 := cnt_out (by decide)
    simp [sumC, kid, this]
  show srch _ 3 6 0 = _
  rw [srch_in ⟨by decide, by decide⟩]
  have a : rankN (blkOf [4, 7, 8, 1, 2, 3, 5, 6] 3 0) 6 = 1 := by decide
  have b : comparedN (blkOf [4, 7, 8, 1, 2, 3, 5, 6] 3 0) 6 = 2 := by decide
  rw [a, b, show kid 3 0 + 1 = 2 by decide, h2]
  simp [sumC, kid, e1]
set_option maxHeartbeats 1000000 in
theorem awake_any (w : World) : Calls Try.prog 7 #[] w fun e w' => e = .returned (.bool true) ∧ Below w.heap.size w w' := by
  have HR := Aside0.mk (lit_reads w [1, 2, 3, 4, 5, 6, 7, 8] (by decide))
  have HB := Aside0.mk (below_alloc (Below.refl w.heap.size w) (.cells ([1, 2, 3, 4, 5, 6, 7, 8].map (Value.int .i64)).toArray 3))
  go_enter Try.func7, Try.ntmps7
  go_wp2_with fail
  refine (of_yes _ _ [1, 2, 3, 4, 5, 6, 7, 8] 2 _ HR.out (by decide) (by decide) (by decide) (by decide) rfl).mono ?_
  rintro e w1 ⟨g, hg, rfl, hk, hb⟩
  rw [lay_eight] at hk
  replace HB := Aside0.mk (below_step HB.out hb)
  have K := Aside0.mk (blk_alloc hk (.cells #[.int .i64 2, .slice (some ⟨g, 0, none⟩) 8 8] 25))
  have L := Aside0.mk (blk_new w1 (.cells #[.int .i64 2, .slice (some ⟨g, 0, none⟩) 8 8] 25))
  replace HB := Aside0.mk (below_alloc HB.out (.cells #[.int .i64 2, .slice (some ⟨g, 0, none⟩) 8 8] 25))
  clear hk hb hg
  have R := Aside0.mk (fun w (hk : w.heap[g]? = some (.cells (nums .i64 [4, 7, 8, 1, 2, 3, 5, 6]).toArray 3 (0, 0))) => rank_yes (b := 2) (by decide) (by decide) (some ⟨g, 0, none⟩) 8 [4, 7, 8, 1, 2, 3, 5, 6] 6 w (C_of_blk hk (by decide)) (by decide) (by decide))
  rw [srch_eight] at R
  have R2 := Aside0.mk (fun w (hk : w.heap[g]? = some (.cells (nums .i64 [4, 7, 8, 1, 2, 3, 5, 6]).toArray 3 (0, 0))) => Blocks_yes (b := 2) (A := some ⟨g, 0, none⟩) (c := 8) (l := [4, 7, 8, 1, 2, 3, 5, 6]) (w := w) (by decide) (by decide) (by decide) (C_of_blk hk (by decide)) (by decide))
  rw [show blk ([4, 7, 8, 1, 2, 3, 5, 6] : List Int).length (wd 2) = 3 by decide] at R2
  go_wp2_with fail
  refine (R.out _ K.out).mono ?_
  rintro e w1 ⟨rfl, hw⟩
  have hb := hw
  clear hw
  replace HB := Aside0.mk (below_step HB.out hb)
  replace K := Aside0.mk (blk_below K.out hb)
  replace L := Aside0.mk (blk_below L.out hb)
  replace L_c0 : (_ : Option Value) = some (.int .i64 2) := (blk_cell L.out 0).trans rfl
  replace L_c1 : (_ : Option Value) = some (.slice (some ⟨g, 0, none⟩) 8 8) := (blk_cell L.out 1).trans rfl
  clear hb
  go_wp2_with fail
  refine (R2.out _ K.out).mono ?_
  rintro e w2 ⟨rfl, hw⟩
  have hb := hw
  clear hw
  replace HB := Aside0.mk (below_step HB.out hb)
  replace K := Aside0.mk (blk_below K.out hb)
  replace L := Aside0.mk (blk_below L.out hb)
  replace L_c0 : (_ : Option Value) = some (.int .i64 2) := (blk_cell L.out 0).trans rfl
  replace L_c1 : (_ : Option Value) = some (.slice (some ⟨g, 0, none⟩) 8 8) := (blk_cell L.out 1).trans rfl
  clear hb
  go_wp2_with fail
  refine (most_eight _).mono ?_
  rintro e w3 ⟨rfl, hw⟩
  have hb := hw.below
  clear hw
  replace HB := Aside0.mk (below_step HB.out hb)
  replace K := Aside0.mk (blk_below K.out hb)
  replace L := Aside0.mk (blk_below L.out hb)
  replace L_c0 : (_ : Option Value) = some (.int .i64 2) := (blk_cell L.out 0).trans rfl
  replace L_c1 : (_ : Option Value) = some (.slice (some ⟨g, 0, none⟩) 8 8) := (blk_cell L.out 1).trans rfl
  clear hb
  have K2 := Aside0.mk (blk_alloc K.out (.cells ([4, 7, 8, 1, 2, 3, 5, 6].map (Value.int .i64)).toArray 3))
  have HR2 := Aside0.mk (lit_reads w3 [4, 7, 8, 1, 2, 3, 5, 6] (by decide))
  replace HB := Aside0.mk (below_alloc HB.out (.cells ([4, 7, 8, 1, 2, 3, 5, 6].map (Value.int .i64)).toArray 3))
  go_wp2_with fail
  refine (ints_eq _ _ [4, 7, 8, 1, 2, 3, 5, 6] _ _ [4, 7, 8, 1, 2, 3, 5, 6] _ (C_of_blk K2.out (by decide)) (by decide) HR2.out (by decide) (by decide) rfl).mono ?_
  rintro e w5 ⟨rfl, hw⟩
  go_wp2
  go_ret
  exact ⟨rfl, below_step HB.out hw.below⟩
set_option maxHeartbeats 4000000 in
theorem lays_range (A0 : Option Addr) (c0 : Nat) (l : List Int) (b : Int) (w : World) (hr : Kd.C (Kd.int .i64) w A0 l.length l) (hc : l.length ≤ c0) (hlen : l.length ≤ 200) (hb0 : bitsB b = false) :
    Calls Try.prog 3 #[.slice A0 l.length c0, .int .i64 b] w fun e w' => e = .returned (.bool true) ∧ Below w.heap.size w w' := by
  have HR := Aside0.mk hr
  have HB := Aside0.mk (Below.refl w.heap.size w)
  have HH := Aside0.mk hb0
  have RR := Aside0.mk (refRight_any b)
  rw [hb0] at RR
  clear hr hb0
  go_enter Try.func3, Try.ntmps3
  go_wp2_with fail
  refine (of_range _ _ l b _ HR.out hc HH.out).mono ?_
  rintro e x1 ⟨rfl, hb⟩
  have hb2 := below_alloc (below_alloc hb (.cells #[.int .i64 0, .slice none 0 0] 25)) (.cells #[.int .i64 b, .slice A0 l.length c0] 25)
  replace HR := Aside0.mk (Kd.C_below HR.out hb2)
  replace HB := Aside0.mk (below_step HB.out hb2)
  have BK := Aside0.mk (blk_alloc (blk_new x1 (.cells #[.int .i64 0, .slice none 0 0] 25)) (.cells #[.int .i64 b, .slice A0 l.length c0] 25))
  have br := blk_new (x1.alloc (.cells #[.int .i64 0, .slice none 0 0] 25)) (.cells #[.int .i64 b, .slice A0 l.length c0] 25)
  simp only [World.size_alloc] at br
  have BR := Aside0.mk br
  clear br
  clear hb hb2
  have BR_c0 : (_ : Option Value) = some (.int .i64 b) := (blk_cell BR.out 0).trans rfl
  have BR_c1 : (_ : Option Value) = some (.slice A0 l.length c0) := (blk_cell BR.out 1).trans rfl
  go_wp2_with fail
  refine (sorted_no A0 c0 l b HH.out _).mono ?_
  rintro e w1 ⟨rfl, hw⟩
  have hb := hw
  clear hw
  replace HR := Aside0.mk (Kd.C_below HR.out hb)
  replace HB := Aside0.mk (below_step HB.out hb)
  replace BK := Aside0.mk (blk_below BK.out hb)
  replace BK_c0 : (_ : Option Value) = some (.int .i64 0) := (blk_cell BK.out 0).trans rfl
  replace BK_c1 : (_ : Option Value) = some (.slice none 0 0) := (blk_cell BK.out 1).trans rfl
  replace BR := Aside0.mk (blk_below BR.out hb)
  replace BR_c0 : (_ : Option Value) = some (.int .i64 b) := (blk_cell BR.out 0).trans rfl
  replace BR_c1 : (_ : Option Value) = some (.slice A0 l.length c0) := (blk_cell BR.out 1).trans rfl
  clear hb
  go_wp2_with fail
  refine (Blocks_no HH.out HR.out hc).mono ?_
  rintro e w2 ⟨rfl, hw⟩
  have hb := hw
  clear hw
  replace HR := Aside0.mk (Kd.C_below HR.out hb)
  replace HB := Aside0.mk (below_step HB.out hb)
  replace BK := Aside0.mk (blk_below BK.out hb)
  replace BK_c0 : (_ : Option Value) = some (.int .i64 0) := (blk_cell BK.out 0).trans rfl
  replace BK_c1 : (_ : Option Value) = some (.slice none 0 0) := (blk_cell BK.out 1).trans rfl
  replace BR := Aside0.mk (blk_below BR.out hb)
  replace BR_c0 : (_ : Option Value) = some (.int .i64 b) := (blk_cell BR.out 0).trans rfl
  replace BR_c1 : (_ : Option Value) = some (.slice A0 l.length c0) := (blk_cell BR.out 1).trans rfl
  clear hb
  go_wp2_with fail
  refine (RR.out _).mono ?_
  rintro e w3 ⟨rfl, hw⟩
  have hb := hw.below
  clear hw
  replace HR := Aside0.mk (Kd.C_below HR.out hb)
  replace HB := Aside0.mk (below_step HB.out hb)
  replace BK := Aside0.mk (blk_below BK.out hb)
  replace BK_c0 : (_ : Option Value) = some (.int .i64 0) := (blk_cell BK.out 0).trans rfl
  replace BK_c1 : (_ : Option Value) = some (.slice none 0 0) := (blk_cell BK.out 1).trans rfl
  replace BR := Aside0.mk (blk_below BR.out hb)
  replace BR_c0 : (_ : Option Value) = some (.int .i64 b) := (blk_cell BR.out 0).trans rfl
  replace BR_c1 : (_ : Option Value) = some (.slice A0 l.length c0) := (blk_cell BR.out 1).trans rfl
  clear hb
  go_wp2_with fail
  refine (awake_any _).mono ?_
  rintro e w4 ⟨rfl, hw⟩
  have hb := hw
  clear hw
  replace HR := Aside0.mk (Kd.C_below HR.out hb)
  replace HB := Aside0.mk (below_step HB.out hb)
  replace BK := Aside0.mk (blk_below BK.out hb)
  replace BK_c0 : (_ : Option Value) = some (.int .i64 0) := (blk_cell BK.out 0).trans rfl
  replace BK_c1 : (_ : Option Value) = some (.slice none 0 0) := (blk_cell BK.out 1).trans rfl
  replace BR := Aside0.mk (blk_below BR.out hb)
  replace BR_c0 : (_ : Option Value) = some (.int .i64 b) := (blk_cell BR.out 0).trans rfl
  replace BR_c1 : (_ : Option Value) = some (.slice A0 l.length c0) := (blk_cell BR.out 1).trans rfl
  clear hb
  go_wp2
  go_ret
  exact ⟨rfl, HB.out⟩
theorem refOf_len {b : Nat} (h1 : 1 ≤ b) (h2 : b ≤ 10) (A0 : Option Addr) (c0 : Nat) (l : List Int) (w : World) (hr : Kd.C (Kd.int .i64) w A0 l.length l) (hc : l.length ≤ c0) (hlen : l.length ≤ 1000000) :
    Calls Try.prog 16 #[.slice A0 l.length c0, .int .i64 b] w fun e w' => ∃ (A : Option Addr) (c : Nat), e = .returned (.slice A l.length c) ∧ l.length ≤ c ∧ Kd.C (Kd.int .i64) w' A l.length (layOf l (wd b)) ∧ Below w.heap.size w w' := by
  have h := refOf_any h1 h2 A0 c0 l w hr hc hlen
  rw [layOf_length] at h
  exact h
theorem refSorted_len {b : Nat} (h1 : 1 ≤ b) (h2 : b ≤ 10) (A0 : Option Addr) (c0 : Nat) (l : List Int) (w : World) (hr : Kd.C (Kd.int .i64) w A0 l.length l) (hc : l.length ≤ c0) (hlen : l.length ≤ 1000000) :
    Calls Try.prog 13 #[.slice A0 l.length c0, .int .i64 b] w fun e w' => ∃ (A : Option Addr) (c : Nat), e = .returned (.slice A l.length c) ∧ l.length ≤ c ∧ Kd.C (Kd.int .i64) w' A l.length (sortedOf l (wd b)) ∧ Below w.heap.size w w' := by
  have h := refSorted_any h1 h2 A0 c0 l w hr hc hlen
  rw [sortedOf_length l (wd_is h1 h2).1] at h
  exact h
theorem sorted_len (A : Option Addr) (c : Nat) (l : List Int) (b : Nat) (h1 : 1 ≤ b) (h2 : b ≤ 10) (w : World) (hr : Kd.C (Kd.int .i64) w A l.length l) (hc : l.length ≤ c) (hlen : l.length ≤ 1000000) :
    Calls Try.prog 9 #[.agg #[.int .i64 b, .slice A l.length c]] w fun e w' => ∃ g, e = .returned (.tuple #[.slice (some ⟨g, 0, none⟩) l.length l.length, .int .i64 0]) ∧
      w.heap.size ≤ g ∧ w'.heap[g]? = some (.cells (nums .i64 (sortedOf l (wd b))).toArray 3 (0, 0)) ∧ Kd.C (Kd.int .i64) w' (some ⟨g, 0, none⟩) l.length (sortedOf l (wd b)) ∧ Below w.heap.size w w' := by
  refine (sorted_any A c l b h1 h2 w hr hc hlen).mono ?_
  rintro e w' ⟨g, hg, rfl, hk, hb⟩
  have hs := sortedOf_length l (wd_is h1 h2).1
  have := C_of_blk hk (by omega)
  rw [hs] at this
  exact ⟨g, rfl, hg, hk, this, hb⟩
set_option maxHeartbeats 4000000 in
theorem lays_order (A0 : Option Addr) (c0 : Nat) (l : List Int) (b : Nat) (h1 : 1 ≤ b) (h2 : b ≤ 10) (w : World) (hr : Kd.C (Kd.int .i64) w A0 l.length l) (hc : l.length ≤ c0) (hlen : l.length ≤ 200) (h : risingB l = false) :
    Calls Try.prog 3 #[.slice A0 l.length c0, .int .i64 b] w fun e w' => e = .returned (.bool true) ∧ Below w.heap.size w w' := by
  have HR := Aside0.mk hr
  have HB := Aside0.mk (Below.refl w.heap.size w)
  have HH := Aside0.mk h
  have HP := Aside0.mk (And.intro h1 h2)
  have RR := Aside0.mk (refRight_any b)
  have hbt : bitsB b = true := decide_eq_true (by omega)
  have HG := Aside0.mk hbt
  rw [hbt] at RR
  clear hr h h1 h2 hbt
  go_enter Try.func3, Try.ntmps3
  go_wp2_with fail
  refine (of_order _ _ l b _ HR.out hc (by omega) HG.out HH.out).mono ?_
  rintro e x1 ⟨rfl, hb⟩
  have hb2 := below_alloc (below_alloc hb (.cells #[.int .i64 0, .slice none 0 0] 25)) (.cells #[.int .i64 b, .slice A0 l.length c0] 25)
  replace HR := Aside0.mk (Kd.C_below HR.out hb2)
  replace HB := Aside0.mk (below_step HB.out hb2)
  have BK := Aside0.mk (blk_alloc (blk_new x1 (.cells #[.int .i64 0, .slice none 0 0] 25)) (.cells #[.int .i64 b, .slice A0 l.length c0] 25))
  have br := blk_new (x1.alloc (.cells #[.int .i64 0, .slice none 0 0] 25)) (.cells #[.int .i64 b, .slice A0 l.length c0] 25)
  simp only [World.size_alloc] at br
  have BR := Aside0.mk br
  clear br
  clear hb hb2
  have BR_c0 : (_ : Option Value) = some (.int .i64 b) := (blk_cell BR.out 0).trans rfl
  have BR_c1 : (_ : Option Value) = some (.slice A0 l.length c0) := (blk_cell BR.out 1).trans rfl
  go_wp2_with fail
  refine (sorted_len A0 c0 l b HP.out.1 HP.out.2 _ HR.out hc (by omega)).mono ?_
  rintro e x2 ⟨g, rfl, hg, hk, hC, hb⟩
  have HS := Aside0.mk hC
  replace HR := Aside0.mk (Kd.C_below HR.out hb)
  replace HB := Aside0.mk (below_step HB.out hb)
  replace BK := Aside0.mk (blk_below BK.out hb)
  replace BR := Aside0.mk (blk_below BR.out hb)
  skip
  clear hC hb hg hk
  have BR_c0 : (_ : Option Value) = some (.int .i64 b) := (blk_cell BR.out 0).trans rfl
  have BR_c1 : (_ : Option Value) = some (.slice A0 l.length c0) := (blk_cell BR.out 1).trans rfl
  go_wp2_with fail
  refine (Blocks_yes HP.out.1 HP.out.2 (by omega) HR.out hc).mono ?_
  rintro e w1 ⟨rfl, hw⟩
  have hb := hw
  clear hw
  replace HR := Aside0.mk (Kd.C_below HR.out hb)
  replace HB := Aside0.mk (below_step HB.out hb)
  replace BR := Aside0.mk (blk_below BR.out hb)
  replace BR_c0 : (_ : Option Value) = some (.int .i64 b) := (blk_cell BR.out 0).trans rfl
  replace BR_c1 : (_ : Option Value) = some (.slice A0 l.length c0) := (blk_cell BR.out 1).trans rfl
  replace BK := Aside0.mk (blk_below BK.out hb)
  replace BK_c0 : (_ : Option Value) = some (.int .i64 0) := (blk_cell BK.out 0).trans rfl
  replace BK_c1 : (_ : Option Value) = some (.slice none 0 0) := (blk_cell BK.out 1).trans rfl
  replace HS := Aside0.mk (Kd.C_below HS.out hb)
  clear hb
  go_wp2_with fail
  refine (RR.out _).mono ?_
  rintro e w2 ⟨rfl, hw⟩
  have hb := hw.below
  clear hw
  replace HR := Aside0.mk (Kd.C_below HR.out hb)
  replace HB := Aside0.mk (below_step HB.out hb)
  replace BR := Aside0.mk (blk_below BR.out hb)
  replace BR_c0 : (_ : Option Value) = some (.int .i64 b) := (blk_cell BR.out 0).trans rfl
  replace BR_c1 : (_ : Option Value) = some (.slice A0 l.length c0) := (blk_cell BR.out 1).trans rfl
  replace BK := Aside0.mk (blk_below BK.out hb)
  replace BK_c0 : (_ : Option Value) = some (.int .i64 0) := (blk_cell BK.out 0).trans rfl
  replace BK_c1 : (_ : Option Value) = some (.slice none 0 0) := (blk_cell BK.out 1).trans rfl
  replace HS := Aside0.mk (Kd.C_below HS.out hb)
  clear hb
  go_wp2_with fail
  refine (refSorted_len HP.out.1 HP.out.2 A0 c0 l _ HR.out hc (by omega)).mono ?_
  rintro e x3 ⟨A2, c2, rfl, hc2, hC, hb⟩
  have HT := Aside0.mk hC
  replace HR := Aside0.mk (Kd.C_below HR.out hb)
  replace HB := Aside0.mk (below_step HB.out hb)
  replace BK := Aside0.mk (blk_below BK.out hb)
  replace HS := Aside0.mk (Kd.C_below HS.out hb)
  skip
  clear hC hb
  have SL := Aside0.mk (sortedOf_length l (wd_is HP.out.1 HP.out.2).1)
  go_wp2_with fail
  refine (ints_same l.length (sortedOf l (wd b)) (some ⟨g, 0, none⟩) l.length A2 c2 _ HS.out (Nat.le_refl _) HT.out hc2 SL.out (by omega)).mono ?_
  rintro e x4 ⟨rfl, hw⟩
  have hb := hw.below
  replace HR := Aside0.mk (Kd.C_below HR.out hb)
  replace HB := Aside0.mk (below_step HB.out hb)
  replace BK := Aside0.mk (blk_below BK.out hb)
  skip
  clear hw hb HS HT hc2
  go_wp2_with fail
  refine (refBlocks_any HP.out.1 HP.out.2 (by omega) _).mono ?_
  rintro e w3 ⟨rfl, hw⟩
  have hb := hw.below
  clear hw
  replace HR := Aside0.mk (Kd.C_below HR.out hb)
  replace HB := Aside0.mk (below_step HB.out hb)
  replace BK := Aside0.mk (blk_below BK.out hb)
  replace BK_c0 : (_ : Option Value) = some (.int .i64 0) := (blk_cell BK.out 0).trans rfl
  replace BK_c1 : (_ : Option Value) = some (.slice none 0 0) := (blk_cell BK.out 1).trans rfl
  clear hb
  go_wp2_with fail
  refine (refRising_any _ _ l false HH.out _ HR.out hc (by omega)).mono ?_
  rintro e w4 ⟨rfl, hw⟩
  have hb := hw.below
  clear hw
  replace HR := Aside0.mk (Kd.C_below HR.out hb)
  replace HB := Aside0.mk (below_step HB.out hb)
  replace BK := Aside0.mk (blk_below BK.out hb)
  replace BK_c0 : (_ : Option Value) = some (.int .i64 0) := (blk_cell BK.out 0).trans rfl
  replace BK_c1 : (_ : Option Value) = some (.slice none 0 0) := (blk_cell BK.out 1).trans rfl
  clear hb
  go_wp2_with fail
  refine (awake_any _).mono ?_
  rintro e w5 ⟨rfl, hw⟩
  have hb := hw
  clear hw
  replace HR := Aside0.mk (Kd.C_below HR.out hb)
  replace HB := Aside0.mk (below_step HB.out hb)
  replace BK := Aside0.mk (blk_below BK.out hb)
  replace BK_c0 : (_ : Option Value) = some (.int .i64 0) := (blk_cell BK.out 0).trans rfl
  replace BK_c1 : (_ : Option Value) = some (.slice none 0 0) := (blk_cell BK.out 1).trans rfl
  clear hb
  go_wp2
  go_ret
  exact ⟨rfl, HB.out⟩
set_option maxHeartbeats 4000000 in
theorem lays_yes (A0 : Option Addr) (c0 : Nat) (l : List Int) (b : Nat) (h1 : 1 ≤ b) (h2 : b ≤ 10) (w : World) (hr : Kd.C (Kd.int .i64) w A0 l.length l) (hc : l.length ≤ c0) (hlen : l.length ≤ 200) (h : risingB l = true) :
    Calls Try.prog 3 #[.slice A0 l.length c0, .int .i64 b] w fun e w' => e = .returned (.bool true) ∧ Below w.heap.size w w' := by
  have HR := Aside0.mk hr
  have HB := Aside0.mk (Below.refl w.heap.size w)
  have HH := Aside0.mk h
  have HP := Aside0.mk (And.intro h1 h2)
  have RR := Aside0.mk (refRight_any b)
  have hbt : bitsB b = true := decide_eq_true (by omega)
  rw [hbt] at RR
  clear hr h h1 h2 hbt
  go_enter Try.func3, Try.ntmps3
  go_wp2_with fail
  refine (of_yes _ _ l b _ HR.out hc (by omega) HP.out.1 HP.out.2 HH.out).mono ?_
  rintro e x1 ⟨g2, hg2, rfl, hk, hb⟩
  have ll := layOf_length l (wd b)
  have hy := C_of_blk hk (by omega)
  rw [ll] at hy
  have hb2 := below_alloc (below_alloc hb (.cells #[.int .i64 b, .slice (some ⟨g2, 0, none⟩) l.length l.length] 25)) (.cells #[.int .i64 b, .slice A0 l.length c0] 25)
  replace HR := Aside0.mk (Kd.C_below HR.out hb2)
  replace HB := Aside0.mk (below_step HB.out hb2)
  have BK := Aside0.mk (blk_alloc (blk_new x1 (.cells #[.int .i64 b, .slice (some ⟨g2, 0, none⟩) l.length l.length] 25)) (.cells #[.int .i64 b, .slice A0 l.length c0] 25))
  have br := blk_new (x1.alloc (.cells #[.int .i64 b, .slice (some ⟨g2, 0, none⟩) l.length l.length] 25)) (.cells #[.int .i64 b, .slice A0 l.length c0] 25)
  simp only [World.size_alloc] at br
  have BR := Aside0.mk br
  clear br
  have HY := Aside0.mk (Kd.C_below hy (below_alloc (below_alloc (Below.refl _ _) (.cells #[.int .i64 b, .slice (some ⟨g2, 0, none⟩) l.length l.length] 25)) (.cells #[.int .i64 b, .slice A0 l.length c0] 25)))
  have LL := Aside0.mk ll
  clear hb hk hg2 ll hy hb2
  have BR_c0 : (_ : Option Value) = some (.int .i64 b) := (blk_cell BR.out 0).trans rfl
  have BR_c1 : (_ : Option Value) = some (.slice A0 l.length c0) := (blk_cell BR.out 1).trans rfl
  go_wp2_with fail
  refine (sorted_len A0 c0 l b HP.out.1 HP.out.2 _ HR.out hc (by omega)).mono ?_
  rintro e x2 ⟨g, rfl, hg, hk, hC, hb⟩
  have HS := Aside0.mk hC
  replace HR := Aside0.mk (Kd.C_below HR.out hb)
  replace HB := Aside0.mk (below_step HB.out hb)
  replace BK := Aside0.mk (blk_below BK.out hb)
  replace BR := Aside0.mk (blk_below BR.out hb)
  replace HY := Aside0.mk (Kd.C_below HY.out hb)
  clear hC hb hg hk
  have BR_c0 : (_ : Option Value) = some (.int .i64 b) := (blk_cell BR.out 0).trans rfl
  have BR_c1 : (_ : Option Value) = some (.slice A0 l.length c0) := (blk_cell BR.out 1).trans rfl
  go_wp2_with fail
  refine (Blocks_yes HP.out.1 HP.out.2 (by omega) HR.out hc).mono ?_
  rintro e w1 ⟨rfl, hw⟩
  have hb := hw
  clear hw
  replace HY := Aside0.mk (Kd.C_below HY.out hb)
  replace HR := Aside0.mk (Kd.C_below HR.out hb)
  replace HB := Aside0.mk (below_step HB.out hb)
  replace BR := Aside0.mk (blk_below BR.out hb)
  replace BR_c0 : (_ : Option Value) = some (.int .i64 b) := (blk_cell BR.out 0).trans rfl
  replace BR_c1 : (_ : Option Value) = some (.slice A0 l.length c0) := (blk_cell BR.out 1).trans rfl
  replace BK := Aside0.mk (blk_below BK.out hb)
  replace BK_c0 : (_ : Option Value) = some (.int .i64 b) := (blk_cell BK.out 0).trans rfl
  replace BK_c1 : (_ : Option Value) = some (.slice (some ⟨g2, 0, none⟩) l.length l.length) := (blk_cell BK.out 1).trans rfl
  replace HS := Aside0.mk (Kd.C_below HS.out hb)
  clear hb
  go_wp2_with fail
  refine (RR.out _).mono ?_
  rintro e w2 ⟨rfl, hw⟩
  have hb := hw.below
  clear hw
  replace HY := Aside0.mk (Kd.C_below HY.out hb)
  replace HR := Aside0.mk (Kd.C_below HR.out hb)
  replace HB := Aside0.mk (below_step HB.out hb)
  replace BR := Aside0.mk (blk_below BR.out hb)
  replace BR_c0 : (_ : Option Value) = some (.int .i64 b) := (blk_cell BR.out 0).trans rfl
  replace BR_c1 : (_ : Option Value) = some (.slice A0 l.length c0) := (blk_cell BR.out 1).trans rfl
  replace BK := Aside0.mk (blk_below BK.out hb)
  replace BK_c0 : (_ : Option Value) = some (.int .i64 b) := (blk_cell BK.out 0).trans rfl
  replace BK_c1 : (_ : Option Value) = some (.slice (some ⟨g2, 0, none⟩) l.length l.length) := (blk_cell BK.out 1).trans rfl
  replace HS := Aside0.mk (Kd.C_below HS.out hb)
  clear hb
  go_wp2_with fail
  refine (refSorted_len HP.out.1 HP.out.2 A0 c0 l _ HR.out hc (by omega)).mono ?_
  rintro e x3 ⟨A2, c2, rfl, hc2, hC, hb⟩
  have HT := Aside0.mk hC
  replace HR := Aside0.mk (Kd.C_below HR.out hb)
  replace HB := Aside0.mk (below_step HB.out hb)
  replace BK := Aside0.mk (blk_below BK.out hb)
  replace HS := Aside0.mk (Kd.C_below HS.out hb)
  replace HY := Aside0.mk (Kd.C_below HY.out hb)
  clear hC hb
  have SL := Aside0.mk (sortedOf_length l (wd_is HP.out.1 HP.out.2).1)
  go_wp2_with fail
  refine (ints_same l.length (sortedOf l (wd b)) (some ⟨g, 0, none⟩) l.length A2 c2 _ HS.out (Nat.le_refl _) HT.out hc2 SL.out (by omega)).mono ?_
  rintro e x4 ⟨rfl, hw⟩
  have hb := hw.below
  replace HR := Aside0.mk (Kd.C_below HR.out hb)
  replace HB := Aside0.mk (below_step HB.out hb)
  replace BK := Aside0.mk (blk_below BK.out hb)
  replace HY := Aside0.mk (Kd.C_below HY.out hb)
  clear hw hb HS HT hc2
  go_wp2_with fail
  refine (refBlocks_any HP.out.1 HP.out.2 (by omega) _).mono ?_
  rintro e w3 ⟨rfl, hw⟩
  have hb := hw.below
  clear hw
  replace HY := Aside0.mk (Kd.C_below HY.out hb)
  replace HR := Aside0.mk (Kd.C_below HR.out hb)
  replace HB := Aside0.mk (below_step HB.out hb)
  replace BK := Aside0.mk (blk_below BK.out hb)
  replace BK_c0 : (_ : Option Value) = some (.int .i64 b) := (blk_cell BK.out 0).trans rfl
  replace BK_c1 : (_ : Option Value) = some (.slice (some ⟨g2, 0, none⟩) l.length l.length) := (blk_cell BK.out 1).trans rfl
  clear hb
  go_wp2_with fail
  refine (refRising_any _ _ l true HH.out _ HR.out hc (by omega)).mono ?_
  rintro e w4 ⟨rfl, hw⟩
  have hb := hw.below
  clear hw
  replace HY := Aside0.mk (Kd.C_below HY.out hb)
  replace HR := Aside0.mk (Kd.C_below HR.out hb)
  replace HB := Aside0.mk (below_step HB.out hb)
  replace BK := Aside0.mk (blk_below BK.out hb)
  replace BK_c0 : (_ : Option Value) = some (.int .i64 b) := (blk_cell BK.out 0).trans rfl
  replace BK_c1 : (_ : Option Value) = some (.slice (some ⟨g2, 0, none⟩) l.length l.length) := (blk_cell BK.out 1).trans rfl
  clear hb
  go_wp2
  go_region_with (first | (go_at_call 16; refine (refOf_len HP.out.1 HP.out.2 A0 c0 l _ ?_ hc (by omega)).mono ?_; exact Kd.C_drew HR.out; rintro e y1 ⟨A3, c3, rfl, hl2, hC2, hb2⟩; have hd := blk_below (blk_drew BK.out) hb2; have hdb : y1.cell? ⟨x1.heap.size, 0, none⟩ = some (.int .i64 b) := (blk_cell hd 0).trans rfl; have hdc : y1.cell? ⟨x1.heap.size, 1, none⟩ = some (.slice (some ⟨g2, 0, none⟩) l.length l.length) := (blk_cell hd 1).trans rfl; have Z := Aside0.mk (And.intro hl2 (And.intro hC2 (And.intro hb2 hd))); clear hl2 hC2 hb2 hd) | (go_at_call 12; refine (ints_same l.length (layOf l (wd b)) (some ⟨g2, 0, none⟩) l.length _ _ _ (Kd.C_below (Kd.C_drew HY.out) Z.out.2.2.1) (Nat.le_refl _) Z.out.2.1 Z.out.1 LL.out (by omega)).mono ?_; rintro e y2 ⟨rfl, hw7⟩; have Y := Aside0.mk hw7; clear hw7) | (go_at_call 7; refine (awake_any _).mono ?_; rintro e y3 ⟨rfl, hw8⟩; have X := Aside0.mk hw8; clear hw8))
  all_goals
    go_wp2
    go_ret
    exact ⟨rfl, below_step (below_step (below_step (below_drew HB.out) Z.out.2.2.1) Y.out.below) X.out⟩
theorem any (A0 : Option Addr) (c0 : Nat) (l : List Int) (b : Int) (w : World) (hr : Kd.C (Kd.int .i64) w A0 l.length l) (hc : l.length ≤ c0) (hlen : l.length ≤ 100000000000000) :
    Calls Try.prog 3 #[.slice A0 l.length c0, .int .i64 b] w fun e w' => e = .returned (.bool true) ∧ Below w.heap.size w w' := by
  by_cases h2 : 200 < l.length
  · have HB := Aside0.mk (Below.refl w.heap.size w)
    clear hr
    go_enter Try.func3, Try.ntmps3
    go_wp2_with fail
    refine (awake_any _).mono ?_
    rintro e w1 ⟨rfl, hb⟩
    go_wp2
    go_ret
    exact ⟨rfl, hb⟩
  · cases hb : bitsB b with
    | false => exact lays_range A0 c0 l b w hr hc (by omega) hb
    | true =>
      have hb2 := of_decide_eq_true hb
      obtain ⟨n, rfl⟩ := Int.eq_ofNat_of_zero_le (show 0 ≤ b by omega)
      cases h : risingB l with
      | false => exact lays_order A0 c0 l n (by omega) (by omega) w hr hc (by omega) h
      | true => exact lays_yes A0 c0 l n (by omega) (by omega) w hr hc (by omega) h
theorem law {W0 : World} (A : Option Addr) (c : Nat) (l : List Int) (g : Kd.C (Kd.int .i64) W0 A l.length l) (hc : l.length ≤ c) (y : l.length * 8 ≤ 140737488351232) (w : ∀ x ∈ l, (Lit.int .i64 x).wf = true)
    (a : Int) (wa : (Lit.int .i64 a).wf = true) (W : World) (hW : W = W0 := by rfl) : Calls Try.prog 3 #[.slice A l.length c, .int .i64 a] W fun e w' => e = .returned (.bool true) ∧ Below W.heap.size W w' := by
  subst hW
  exact any A c l a W g hc (by omega)
end Go.Proofs.Ythhmiieimfdffaa.C11
