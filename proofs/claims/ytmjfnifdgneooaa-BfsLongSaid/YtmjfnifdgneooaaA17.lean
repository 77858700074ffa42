/- Walk of the law BfsLong: it returns true; whatever the numbers, how many more. -/
import Derived.Test.YtmjfnifdgneooaaA12
import Derived.Test.YtmjfnifdgneooaaA5
import Derived.Test.YtmjfnifdgneooaaB6
namespace Go.Proofs.Ytmjfnifdgneooaa.A17
open Go.RowKit Go.Proofs.YtmjfnifdgneooaaW.PrintWords Go.Proofs.YtmjfnifdgneooaaW.PrintLast Go.Proofs.YtmjfnifdgneooaaW.PrintMore B1 A1 B2 B3 B4 B5 B6 A5 A8 A9 A10 A11 A12
set_option linter.unusedVariables false
set_option linter.unusedSimpArgs false
theorem ints_same (n : Nat) (l : List Int) (A0 : Option Addr) (c0 : Nat) (A1 : Option Addr) (c1 : Nat) (w : World) (hr : Kd.C (Kd.int .i64) w A0 n l) (hc : n ≤ c0) (hr1 : Kd.C (Kd.int .i64) w A1 n l) (hc1 : n ≤ c1) (hlen : n ≤ 1000000) :
    Calls Try.prog 31 #[.slice A0 n c0, .slice A1 n c1] w fun e w' => e = .returned (.bool true) ∧ Drawn0 w w' := by
  obtain rfl : l.length = n := hr.1
  exact ints_eq A0 c0 l A1 c1 l w hr hc hr1 hc1 hlen rfl
theorem own_of_R {w : World} {base e : Nat} {ok : Nat → Prop} {v : Value} {xs : List Int} (h : Kd.R (Kd.int .i64) e w base ok v xs) : w.ownsRow base e 1 v xs.length (nums .i64 xs) := by
  obtain ⟨_, inner, ho, hr⟩ := h
  have e1 : inner = nums .i64 xs := Kd.reps_encs (enc := Value.int .i64) hr
  rw [e1] at ho
  exact ho
/-- A row of the call's own, read. -/
theorem own_C {w : World} {base e n : Nat} {v : Value} {xs : List Int} (h : w.ownsRow base e 1 v n (nums .i64 xs)) : ∃ A c, v = .slice A n c ∧ n ≤ c ∧ Kd.C (Kd.int .i64) w A n xs := by
  obtain ⟨A, c, rfl, hr⟩ := own_reads h
  refine ⟨A, c, rfl, ?_, Kd.C_of_reads (d := (0 : Int)) (h1 := fun _ => rfl) hr⟩
  rcases h.2 with ⟨h1, h2⟩ | ⟨g, cap, cur, h1, _, _, h2, _⟩
  · simp at h1; omega
  · simp at h1; omega
theorem own_C' {w : World} {base e n c : Nat} {A : Option Addr} {xs : List Int} (h : w.ownsRow base e 1 (.slice A n c) n (nums .i64 xs)) : n ≤ c ∧ Kd.C (Kd.int .i64) w A n xs := by
  obtain ⟨A', c', he, h1, h2⟩ := own_C h
  simp only [Value.slice.injEq, true_and] at he
  obtain ⟨rfl, rfl⟩ := he
  exact ⟨h1, h2⟩
/-- The numbers from 0 on. -/
def upTo (n : Nat) : List Int := (List.range n).map Int.ofNat
theorem upTo_len (n : Nat) : (upTo n).length = n := by simp [upTo]
theorem upTo_succ (n : Nat) : upTo (n + 1) = upTo n ++ [(n : Int)] := by simp [upTo, List.range_succ]
theorem upTo_rises (n : Nat) : risingB (upTo n) = true := by
  rw [rising_iff]
  intro i hi
  rw [upTo_len] at hi
  simp [upTo, List.getD_eq_getElem?_getD, show i < n by omega, hi]
  omega
theorem sorted_back (g : Nat) (r : List Int) (W : World) (hx : W.heap[g]? = some (.cells (nums .i64 (layOf r)).toArray 3 (0, 0))) (h : r.length ≤ 1000) :
    Calls Try.prog 32 #[.agg #[.slice (some ⟨g, 0, none⟩) r.length r.length]] W fun e w' => ∃ g', W.heap.size ≤ g' ∧ e = .returned (.slice (some ⟨g', 0, none⟩) r.length r.length) ∧ w'.heap[g']? = some (.cells (nums .i64 r).toArray 3 (0, 0)) ∧ Below W.heap.size W w' := by
  have ll := layOf_length r
  have XC := C_of_blk hx (by omega)
  have SO := sorted_any (some ⟨g, 0, none⟩) r.length (layOf r) W XC (by omega)
  rw [ll, sorted_lay] at SO
  exact SO
theorem was_same (g : Nat) (r : List Int) (W : World) (hx : W.heap[g]? = some (.cells (nums .i64 (layOf r)).toArray 3 (0, 0))) (h : r.length ≤ 1000) {nb : Nat} {A : Option Addr} {c : Nat} (hw : W.ownsRow nb 3 1 (.slice A r.length c) r.length (nums .i64 (layOf r))) :
    Calls Try.prog 31 #[.slice (some ⟨g, 0, none⟩) r.length r.length, .slice A r.length c] W fun e w' => e = .returned (.bool true) ∧ Drawn0 W w' := by
  have XC := C_of_blk hx (by rw [layOf_length]; omega)
  rw [layOf_length] at XC
  exact ints_same r.length (layOf r) _ _ _ _ _ XC (Nat.le_refl _) (own_C' hw).2 (own_C' hw).1 (by omega)
theorem place_first (many : Int) (w : World) (h1 : 1 ≤ many) (h2 : many ≤ 65536) : Calls Try.prog 26 #[.int .i64 0, .int .i64 many] w fun e w' => ∃ p : Int, e = .returned (.tuple #[.int .i64 p, .int .i64 0]) ∧ Below w.heap.size w w' := by
  obtain ⟨n, rfl⟩ := Int.eq_ofNat_of_zero_le (show 0 ≤ many by omega)
  exact (place_yes 0 n w (by omega) (by omega)).mono fun e w' h => ⟨_, h⟩
set_option maxHeartbeats 4000000 in
set_option maxRecDepth 100000 in
theorem any (A0 : Option Addr) (c0 : Nat) (l : List Int) (more : Int) (w : World) (hr : Kd.C (Kd.int .i64) w A0 l.length l) (hc : l.length ≤ c0) (hl : l.length ≤ 100000000000000) :
    Calls Try.prog 11 #[.slice A0 l.length c0, .int .i64 more] w fun e w' => e = .returned (.bool true) ∧ Below w.heap.size w w' := by
  have HR := Aside0.mk hr
  clear hr
  go_enter Try.func11, Try.ntmps11
  go_wp2_with fail
  refine (risen_any _ _ l _ HR.out hc).mono ?_
  rintro e w0 ⟨r, hg, A, c, rfl, hcr, hC, hb⟩
  have HG := Aside0.mk hg
  have h200 : r.length ≤ 200 := hg.2.1
  clear HR
  have HBW := Aside0.mk hb
  have HK := Aside0.mk hC
  clear hg hC hb
  have LIT : Aside0 (Kd.R (Kd.int .i64) 3 (w0.alloc (.cells #[] 3)) w0.heap.size (fun _ => True) (.slice (some ⟨w0.heap.size, 0, none⟩) 0 0) []) := ⟨⟨fun _ _ => trivial, [], ⟨rfl, .inr ⟨_, _, _, rfl, Nat.le_refl _, blk_new w0 _, Nat.le_refl _, by simp, rfl, rfl⟩⟩, Reps.none _ _⟩⟩
  go_wp2_with ((with_reducible refine gate_builtin (b := .append) (xs := #[.tmp 21, .tmp 22]) rfl ?_); at_builtin; refine Kd.R_append_rows (Kd.int .i64) (w0 := w0) w0.heap.size rfl (.tmp 21) (.tmp 22) 22 3 (.int .i64 0) 8 rfl Try.underlying22 info_int rfl (by decide) (by omega) _ [] r A r.length c (fun _ => True) (fun _ => False) rfl rfl LIT.out (Kd.C_alloc HK.out _) (fun _ _ h => h) (fun _ h => h.elim) (fun _ _ => trivial) (below_alloc (Below.refl _ _) _) (by simp) (by simp; omega) ?_; intro vh w1 hR hB _ _; rw [List.nil_append] at hR; obtain ⟨Ah, ch, rfl, hlh, hCh⟩ := Kd.R_reads hR; have HH := Aside0.mk (own_of_R hR); have HB0 := Aside0.mk hB; have h01 := hB.size; have HCh := Aside0.mk hCh; clear hR hB hCh)
  clear LIT
  refine (of_yes Ah ch r _ HCh.out hlh (by omega) HG.out.1).mono ?_
  rintro e w2 ⟨g, hg2, rfl, hk, hb⟩
  have ll := layOf_length r
  have XK := Aside0.mk (blk_alloc hk (.cells #[.slice (some ⟨g, 0, none⟩) r.length r.length] 43))
  have BX := Aside0.mk (blk_new w2 (.cells #[.slice (some ⟨g, 0, none⟩) r.length r.length] 43))
  replace HB0 := Aside0.mk (below_then (below_then HB0.out HB0.out.size hb) (Nat.le_trans HB0.out.size hb.size) (below_alloc (Below.refl _ _) (.cells #[.slice (some ⟨g, 0, none⟩) r.length r.length] 43)))
  have HH1 := HH
  replace HH := Aside0.mk (pw_own_below HH.out (below_alloc hb (.cells #[.slice (some ⟨g, 0, none⟩) r.length r.length] 43)))
  replace HCh := Aside0.mk (Kd.C_below HCh.out (below_alloc hb (.cells #[.slice (some ⟨g, 0, none⟩) r.length r.length] 43)))
  have LL := Aside0.mk ll
  have hgx : g < w2.heap.size := blk_lt hk
  have hgh : ∀ q, (Value.slice Ah r.length ch).ownBlock = some q → q < g := fun q hq => by
    have := own_lt HH1.out q hq
    omega
  clear hb hk ll
  clear HH1
  have HKx := Aside0.mk (Kd.C_below HK.out HB0.out)
  go_wp2_with fail
  refine (ints_same r.length r Ah ch A c _ HCh.out hlh HKx.out hcr (by omega)).mono ?_
  rintro e w1 ⟨rfl, hw⟩
  have hb := hw.below
  clear hw
  replace HB0 := Aside0.mk (below_step HB0.out hb)
  replace HH := Aside0.mk (pw_own_below HH.out hb)
  replace XK := Aside0.mk (blk_below XK.out hb)
  replace BX := Aside0.mk (blk_below BX.out hb)
  replace BX_c0 : (_ : Option Value) = some (.slice (some ⟨g, 0, none⟩) r.length r.length) := (blk_cell BX.out 0).trans rfl
  clear hb
  clear HKx HCh
  have XC : Aside0 (Kd.C (Kd.int .i64) w1 (some ⟨g, 0, none⟩) r.length (layOf r)) := ⟨by have := C_of_blk XK.out (by rw [LL.out]; omega); rw [LL.out] at this; exact this⟩
  have LIT : Aside0 (Kd.R (Kd.int .i64) 3 (w1.alloc (.cells #[] 3)) w1.heap.size (fun _ => True) (.slice (some ⟨w1.heap.size, 0, none⟩) 0 0) []) := ⟨⟨fun _ _ => trivial, [], ⟨rfl, .inr ⟨_, _, _, rfl, Nat.le_refl _, blk_new w1 _, Nat.le_refl _, by simp, rfl, rfl⟩⟩, Reps.none _ _⟩⟩
  have BX_cA : (w1.alloc (.cells #[] 3)).cell? ⟨w2.heap.size, 0, none⟩ = some (.slice (some ⟨g, 0, none⟩) r.length r.length) := (blk_cell (blk_alloc BX.out _) 0).trans rfl
  go_wp2_with ((with_reducible refine gate_builtin (b := .append) (xs := #[.tmp 37, .tmp 39]) rfl ?_); at_builtin; refine Kd.R_append_rows (Kd.int .i64) (w0 := w1) w1.heap.size rfl (.tmp 37) (.tmp 39) 22 3 (.int .i64 0) 8 rfl Try.underlying22 info_int rfl (by decide) (by omega) _ [] (layOf r) (some ⟨g, 0, none⟩) r.length r.length (fun _ => True) (fun _ => False) rfl rfl LIT.out (Kd.C_alloc XC.out _) (fun _ _ h => h) (fun _ h => h.elim) (fun _ _ => trivial) (below_alloc (Below.refl _ _) _) (by simp) (by simp; omega) ?_; intro vw w3 hR hB _ _; rw [List.nil_append] at hR; have HW := Aside0.mk (own_of_R hR); have hb := hB; clear hR hB)
  clear LIT XC BX_cA
  replace HB0 := Aside0.mk (below_step HB0.out hb)
  replace HH := Aside0.mk (pw_own_below HH.out hb)
  replace XK := Aside0.mk (blk_below XK.out hb)
  have hbx := blk_lt BX.out
  replace BX := Aside0.mk (blk_below BX.out hb)
  clear hb
  have hbw : ∀ q, vw.ownBlock = some q → w1.heap.size ≤ q := fun q hq => own_base HW.out q hq
  have LN := Aside0.mk (show (layOf r).length = r.length from LL.out)
  rw [LN.out] at HW
  obtain ⟨Aw, cw, rfl, _, _⟩ := own_C HW.out
  have hwh : w0.heap.size ≤ g := by omega
  generalize w2.heap.size = bx at *
  generalize w1.heap.size = nb at *
  go_loopg [10] r.length (fun kq vi w' => ∃ i : Nat, vi = .int .i64 i ∧ i ≤ r.length ∧ Aside0 (kq = r.length - i) ∧ Aside0 (∃ ys : List Int, w'.ownsRow w0.heap.size 3 1 (.slice Ah r.length ch) r.length (nums .i64 ys))
    ∧ Aside0 (w'.heap[g]? = some (.cells (nums .i64 (layOf r)).toArray 3 (0, 0))) ∧ Aside0 (w'.heap[bx]? = some (.cells #[.slice (some ⟨g, 0, none⟩) r.length r.length] 43 (0, 0))) ∧ Aside0 (w'.ownsRow nb 3 1 (.slice Aw r.length cw) r.length (nums .i64 (layOf r))) ∧ Aside0 (Below w0.heap.size w0 w'))
  case atStart => exact ⟨0, rfl, by omega, ⟨by omega⟩, ⟨r, HH.out⟩, XK, BX, HW, HB0⟩
  case round =>
    clear HH XK BX BX_c0 HW HB0
    obtain ⟨i, rfl, hi, HKQ, HH, XK, BX, HW, HB0⟩ := hrel
    have BX_c0 : (_ : Option Value) = some (.slice (some ⟨g, 0, none⟩) r.length r.length) := (blk_cell BX.out 0).trans rfl
    by_cases hlt : i < r.length
    · obtain ⟨ys, hys⟩ := HH.out
      obtain ⟨gh, cap, he, _, _⟩ := hys.form (by omega)
      simp only [Value.slice.injEq, true_and] at he
      obtain ⟨rfl, rfl⟩ := he
      have hgg : gh < g := hgh gh rfl
      have hyl : ys.length = r.length := by have := hys.1; simpa [nums] using this
      obtain ⟨u0, hu0⟩ : ∃ u0, wr.cell? ⟨gh, i, none⟩ = some (.int .i64 u0) := ⟨ys.getD i 0, by rw [hys.cellAt i (by omega)]; simp [nums, List.getD_eq_getElem?_getD, show i < ys.length by omega]⟩
      have fu0 := hys.frozenAt i
      have hst := hys.stored i (.int .i64 7)
      have hset : (nums .i64 ys).set i (.int .i64 7) = nums .i64 (ys.set i 7) := by simp [nums, List.map_set]
      rw [hset] at hst
      have HST := Aside0.mk hst
      clear hst hset hys hyl HH
      go_wp2
      go_roundg (r.length - (i + 1))
      case measure => have := HKQ.out; omega
      case rel =>
        refine ⟨i + 1, by go_num, by omega, ⟨rfl⟩, ⟨⟨_, HST.out.1⟩⟩, ⟨blk_far XK.out (by show g ≠ gh; omega) _⟩, ⟨blk_far BX.out (by show bx ≠ gh; omega) _⟩, ⟨own_setCell HW.out (fun e => ?_) _⟩, ⟨HB0.out.setCell (p := ⟨gh, i, none⟩) (own_base HST.out.1 gh rfl) _⟩⟩
        have := hbw gh e.symm
        omega
    · clear HH
      have XC := C_of_blk XK.out (by rw [LN.out]; omega)
      rw [LN.out] at XC
      have SO := Aside0.mk (sorted_any (some ⟨g, 0, none⟩) r.length (layOf r) wr (by rw [LN.out]; exact XC) (by rw [LN.out]; omega))
      rw [LN.out, sorted_lay] at SO
      clear XC
      go_wp2_with fail
      refine SO.out.mono ?_
      rintro e w5 ⟨gt, hgt, rfl, hkt, hb⟩
      replace HB0 := Aside0.mk (below_step HB0.out hb)
      have hbx2 := blk_lt BX.out
      have hg2 := blk_lt XK.out
      have hw2 : ∀ q, (Value.slice Aw r.length cw).ownBlock = some q → q < wr.heap.size := fun q hq => own_lt HW.out q hq
      replace XK := Aside0.mk (blk_below XK.out hb)
      replace BX := Aside0.mk (blk_below BX.out hb)
      replace HW := Aside0.mk (pw_own_below HW.out hb)
      have HKT := Aside0.mk hkt
      have hw0 : w0.heap.size ≤ gt := by omega
      clear hkt hb SO BX_c0
      go_wp2
      go_loopg [12] r.length (fun kq vi w' => ∃ i : Nat, vi = .int .i64 i ∧ i ≤ r.length ∧ Aside0 (kq = r.length - i) ∧ Aside0 (∃ ys : List Int, ys.length = r.length ∧ w'.heap[gt]? = some (.cells (nums .i64 ys).toArray 3 (0, 0)))
        ∧ Aside0 (w'.heap[g]? = some (.cells (nums .i64 (layOf r)).toArray 3 (0, 0))) ∧ Aside0 (w'.heap[bx]? = some (.cells #[.slice (some ⟨g, 0, none⟩) r.length r.length] 43 (0, 0))) ∧ Aside0 (w'.ownsRow nb 3 1 (.slice Aw r.length cw) r.length (nums .i64 (layOf r))) ∧ Aside0 (Below w0.heap.size w0 w'))
      case atStart => exact ⟨0, rfl, by omega, ⟨by omega⟩, ⟨r, rfl, HKT.out⟩, XK, BX, HW, HB0⟩
      case round =>
        clear HKT XK BX HW HB0 hlt hi
        obtain ⟨j, rfl, hj, HKQ2, HKT, XK, BX, HW, HB0⟩ := hrel
        have BX_c0 : (_ : Option Value) = some (.slice (some ⟨g, 0, none⟩) r.length r.length) := (blk_cell BX.out 0).trans rfl
        by_cases hlt : j < r.length
        · obtain ⟨ys, hyl, hys⟩ := HKT.out
          have hcell : wr.cell? ⟨gt, j, none⟩ = some (.int .i64 (ys.getD j 0)) := by rw [blk_cell hys j]; simp [nums, List.getD_eq_getElem?_getD, show j < ys.length by omega]
          have hfr := blk_frozen hys j
          generalize ys.getD j 0 = y0 at hcell
          have hset : ∀ v : Int, (nums .i64 ys).toArray.setIfInBounds j (.int .i64 v) = (nums .i64 (ys.set j v)).toArray := fun v => nums_set ys j v
          have HST := Aside0.mk (And.intro hys (And.intro hyl hset))
          clear hset hys hyl HKT
          go_wp2
          go_roundg (r.length - (j + 1))
          case measure => have := HKQ2.out; omega
          case rel =>
            refine ⟨j + 1, by go_num, by omega, ⟨rfl⟩, ⟨⟨ys.set j (wrap64 (y0 + 1)), by rw [List.length_set]; exact HST.out.2.1, ?_⟩⟩, ⟨blk_far XK.out (by show g ≠ gt; omega) _⟩, ⟨blk_far BX.out (by show bx ≠ gt; omega) _⟩, ⟨own_setCell HW.out (fun e => ?_) _⟩, ⟨HB0.out.setCell (p := ⟨gt, j, none⟩) hw0 _⟩⟩
            · rw [← HST.out.2.2]
              exact blk_set HST.out.1 j _
            · have := hw2 gt e.symm
              omega
        · clear HKT
          have hw00 : w0.heap.size ≤ wr.heap.size := HB0.out.size
          by_cases m1 : more < 0
          · go_wp2_with fail
            refine (was_same g r _ XK.out (by omega) HW.out).mono ?_
            rintro e w2 ⟨rfl, hw⟩
            have hb := hw.below
            clear hw
            replace HB0 := Aside0.mk (below_step HB0.out hb)
            replace XK := Aside0.mk (blk_below XK.out hb)
            replace BX := Aside0.mk (blk_below BX.out hb)
            replace BX_c0 : (_ : Option Value) = some (.slice (some ⟨g, 0, none⟩) r.length r.length) := (blk_cell BX.out 0).trans rfl
            replace HW := Aside0.mk (pw_own_below HW.out hb)
            clear hb
            go_wp2_with fail
            refine (sorted_back g r _ XK.out (by omega)).mono ?_
            rintro e wa ⟨gs, hgt2, rfl, hkt, hb⟩
            have KT := Aside0.mk (C_of_blk hkt (by omega))
            replace HB0 := Aside0.mk (below_step HB0.out hb)
            replace XK := Aside0.mk (blk_below XK.out hb)
            replace BX := Aside0.mk (blk_below BX.out hb)
            replace HW := Aside0.mk (pw_own_below HW.out hb)
            replace BX_c0 : (_ : Option Value) = some (.slice (some ⟨g, 0, none⟩) r.length r.length) := (blk_cell BX.out 0).trans rfl
            clear hkt hb hgt2
            go_wp2_with fail
            refine (ints_same r.length r (some ⟨gs, 0, none⟩) r.length A c _ KT.out (Nat.le_refl _) (Kd.C_below HK.out HB0.out) hcr (by omega)).mono ?_
            rintro e w3 ⟨rfl, hw⟩
            have hb := hw.below
            clear hw
            replace HB0 := Aside0.mk (below_step HB0.out hb)
            replace XK := Aside0.mk (blk_below XK.out hb)
            replace BX := Aside0.mk (blk_below BX.out hb)
            replace BX_c0 : (_ : Option Value) = some (.slice (some ⟨g, 0, none⟩) r.length r.length) := (blk_cell BX.out 0).trans rfl
            replace HW := Aside0.mk (pw_own_below HW.out hb)
            clear hb
            clear KT
            go_wp2_with fail
            refine (was_same g r _ XK.out (by omega) HW.out).mono ?_
            rintro e w4 ⟨rfl, hw⟩
            have hb := hw.below
            clear hw
            replace HB0 := Aside0.mk (below_step HB0.out hb)
            replace XK := Aside0.mk (blk_below XK.out hb)
            replace BX := Aside0.mk (blk_below BX.out hb)
            replace BX_c0 : (_ : Option Value) = some (.slice (some ⟨g, 0, none⟩) r.length r.length) := (blk_cell BX.out 0).trans rfl
            replace HW := Aside0.mk (pw_own_below HW.out hb)
            clear hb
            go_wp2_with fail
            refine (sorted_back g r _ XK.out (by omega)).mono ?_
            rintro e wb ⟨gs2, hgt2, rfl, hkt, hb⟩
            have KT := Aside0.mk (C_of_blk hkt (by omega))
            replace HB0 := Aside0.mk (below_step HB0.out hb)
            replace XK := Aside0.mk (blk_below XK.out hb)
            replace BX := Aside0.mk (blk_below BX.out hb)
            replace HW := Aside0.mk (pw_own_below HW.out hb)
            replace BX_c0 : (_ : Option Value) = some (.slice (some ⟨g, 0, none⟩) r.length r.length) := (blk_cell BX.out 0).trans rfl
            clear hkt hb hgt2
            go_wp2_with fail
            refine (ints_same r.length r (some ⟨gs2, 0, none⟩) r.length A c _ KT.out (Nat.le_refl _) (Kd.C_below HK.out HB0.out) hcr (by omega)).mono ?_
            rintro e w5 ⟨rfl, hw⟩
            have hb := hw.below
            clear hw
            replace HB0 := Aside0.mk (below_step HB0.out hb)
            replace XK := Aside0.mk (blk_below XK.out hb)
            replace BX := Aside0.mk (blk_below BX.out hb)
            replace BX_c0 : (_ : Option Value) = some (.slice (some ⟨g, 0, none⟩) r.length r.length) := (blk_cell BX.out 0).trans rfl
            replace HW := Aside0.mk (pw_own_below HW.out hb)
            clear hb
            clear KT
            go_wp2_with fail
            refine (awake_any _).mono ?_
            rintro e w6 ⟨rfl, hw⟩
            have hb := hw
            clear hw
            replace HB0 := Aside0.mk (below_step HB0.out hb)
            replace XK := Aside0.mk (blk_below XK.out hb)
            replace BX := Aside0.mk (blk_below BX.out hb)
            replace BX_c0 : (_ : Option Value) = some (.slice (some ⟨g, 0, none⟩) r.length r.length) := (blk_cell BX.out 0).trans rfl
            replace HW := Aside0.mk (pw_own_below HW.out hb)
            clear hb
            go_wp2
            go_ret
            exact ⟨rfl, below_step HBW.out HB0.out⟩
          by_cases m2 : 12 < more
          · go_wp2_with fail
            refine (was_same g r _ XK.out (by omega) HW.out).mono ?_
            rintro e w7 ⟨rfl, hw⟩
            have hb := hw.below
            clear hw
            replace HB0 := Aside0.mk (below_step HB0.out hb)
            replace XK := Aside0.mk (blk_below XK.out hb)
            replace BX := Aside0.mk (blk_below BX.out hb)
            replace BX_c0 : (_ : Option Value) = some (.slice (some ⟨g, 0, none⟩) r.length r.length) := (blk_cell BX.out 0).trans rfl
            replace HW := Aside0.mk (pw_own_below HW.out hb)
            clear hb
            go_wp2_with fail
            refine (sorted_back g r _ XK.out (by omega)).mono ?_
            rintro e wa ⟨gs, hgt2, rfl, hkt, hb⟩
            have KT := Aside0.mk (C_of_blk hkt (by omega))
            replace HB0 := Aside0.mk (below_step HB0.out hb)
            replace XK := Aside0.mk (blk_below XK.out hb)
            replace BX := Aside0.mk (blk_below BX.out hb)
            replace HW := Aside0.mk (pw_own_below HW.out hb)
            replace BX_c0 : (_ : Option Value) = some (.slice (some ⟨g, 0, none⟩) r.length r.length) := (blk_cell BX.out 0).trans rfl
            clear hkt hb hgt2
            go_wp2_with fail
            refine (ints_same r.length r (some ⟨gs, 0, none⟩) r.length A c _ KT.out (Nat.le_refl _) (Kd.C_below HK.out HB0.out) hcr (by omega)).mono ?_
            rintro e w8 ⟨rfl, hw⟩
            have hb := hw.below
            clear hw
            replace HB0 := Aside0.mk (below_step HB0.out hb)
            replace XK := Aside0.mk (blk_below XK.out hb)
            replace BX := Aside0.mk (blk_below BX.out hb)
            replace BX_c0 : (_ : Option Value) = some (.slice (some ⟨g, 0, none⟩) r.length r.length) := (blk_cell BX.out 0).trans rfl
            replace HW := Aside0.mk (pw_own_below HW.out hb)
            clear hb
            clear KT
            go_wp2_with fail
            refine (was_same g r _ XK.out (by omega) HW.out).mono ?_
            rintro e w9 ⟨rfl, hw⟩
            have hb := hw.below
            clear hw
            replace HB0 := Aside0.mk (below_step HB0.out hb)
            replace XK := Aside0.mk (blk_below XK.out hb)
            replace BX := Aside0.mk (blk_below BX.out hb)
            replace BX_c0 : (_ : Option Value) = some (.slice (some ⟨g, 0, none⟩) r.length r.length) := (blk_cell BX.out 0).trans rfl
            replace HW := Aside0.mk (pw_own_below HW.out hb)
            clear hb
            go_wp2_with fail
            refine (sorted_back g r _ XK.out (by omega)).mono ?_
            rintro e wb ⟨gs2, hgt2, rfl, hkt, hb⟩
            have KT := Aside0.mk (C_of_blk hkt (by omega))
            replace HB0 := Aside0.mk (below_step HB0.out hb)
            replace XK := Aside0.mk (blk_below XK.out hb)
            replace BX := Aside0.mk (blk_below BX.out hb)
            replace HW := Aside0.mk (pw_own_below HW.out hb)
            replace BX_c0 : (_ : Option Value) = some (.slice (some ⟨g, 0, none⟩) r.length r.length) := (blk_cell BX.out 0).trans rfl
            clear hkt hb hgt2
            go_wp2_with fail
            refine (ints_same r.length r (some ⟨gs2, 0, none⟩) r.length A c _ KT.out (Nat.le_refl _) (Kd.C_below HK.out HB0.out) hcr (by omega)).mono ?_
            rintro e w10 ⟨rfl, hw⟩
            have hb := hw.below
            clear hw
            replace HB0 := Aside0.mk (below_step HB0.out hb)
            replace XK := Aside0.mk (blk_below XK.out hb)
            replace BX := Aside0.mk (blk_below BX.out hb)
            replace BX_c0 : (_ : Option Value) = some (.slice (some ⟨g, 0, none⟩) r.length r.length) := (blk_cell BX.out 0).trans rfl
            replace HW := Aside0.mk (pw_own_below HW.out hb)
            clear hb
            clear KT
            go_wp2_with fail
            refine (awake_any _).mono ?_
            rintro e w11 ⟨rfl, hw⟩
            have hb := hw
            clear hw
            replace HB0 := Aside0.mk (below_step HB0.out hb)
            replace XK := Aside0.mk (blk_below XK.out hb)
            replace BX := Aside0.mk (blk_below BX.out hb)
            replace BX_c0 : (_ : Option Value) = some (.slice (some ⟨g, 0, none⟩) r.length r.length) := (blk_cell BX.out 0).trans rfl
            replace HW := Aside0.mk (pw_own_below HW.out hb)
            clear hb
            go_wp2
            go_ret
            exact ⟨rfl, below_step HBW.out HB0.out⟩
          by_cases m3 : 3 < l.length
          · go_wp2_with fail
            refine (was_same g r _ XK.out (by omega) HW.out).mono ?_
            rintro e w12 ⟨rfl, hw⟩
            have hb := hw.below
            clear hw
            replace HB0 := Aside0.mk (below_step HB0.out hb)
            replace XK := Aside0.mk (blk_below XK.out hb)
            replace BX := Aside0.mk (blk_below BX.out hb)
            replace BX_c0 : (_ : Option Value) = some (.slice (some ⟨g, 0, none⟩) r.length r.length) := (blk_cell BX.out 0).trans rfl
            replace HW := Aside0.mk (pw_own_below HW.out hb)
            clear hb
            go_wp2_with fail
            refine (sorted_back g r _ XK.out (by omega)).mono ?_
            rintro e wa ⟨gs, hgt2, rfl, hkt, hb⟩
            have KT := Aside0.mk (C_of_blk hkt (by omega))
            replace HB0 := Aside0.mk (below_step HB0.out hb)
            replace XK := Aside0.mk (blk_below XK.out hb)
            replace BX := Aside0.mk (blk_below BX.out hb)
            replace HW := Aside0.mk (pw_own_below HW.out hb)
            replace BX_c0 : (_ : Option Value) = some (.slice (some ⟨g, 0, none⟩) r.length r.length) := (blk_cell BX.out 0).trans rfl
            clear hkt hb hgt2
            go_wp2_with fail
            refine (ints_same r.length r (some ⟨gs, 0, none⟩) r.length A c _ KT.out (Nat.le_refl _) (Kd.C_below HK.out HB0.out) hcr (by omega)).mono ?_
            rintro e w13 ⟨rfl, hw⟩
            have hb := hw.below
            clear hw
            replace HB0 := Aside0.mk (below_step HB0.out hb)
            replace XK := Aside0.mk (blk_below XK.out hb)
            replace BX := Aside0.mk (blk_below BX.out hb)
            replace BX_c0 : (_ : Option Value) = some (.slice (some ⟨g, 0, none⟩) r.length r.length) := (blk_cell BX.out 0).trans rfl
            replace HW := Aside0.mk (pw_own_below HW.out hb)
            clear hb
            clear KT
            go_wp2_with fail
            refine (was_same g r _ XK.out (by omega) HW.out).mono ?_
            rintro e w14 ⟨rfl, hw⟩
            have hb := hw.below
            clear hw
            replace HB0 := Aside0.mk (below_step HB0.out hb)
            replace XK := Aside0.mk (blk_below XK.out hb)
            replace BX := Aside0.mk (blk_below BX.out hb)
            replace BX_c0 : (_ : Option Value) = some (.slice (some ⟨g, 0, none⟩) r.length r.length) := (blk_cell BX.out 0).trans rfl
            replace HW := Aside0.mk (pw_own_below HW.out hb)
            clear hb
            go_wp2_with fail
            refine (sorted_back g r _ XK.out (by omega)).mono ?_
            rintro e wb ⟨gs2, hgt2, rfl, hkt, hb⟩
            have KT := Aside0.mk (C_of_blk hkt (by omega))
            replace HB0 := Aside0.mk (below_step HB0.out hb)
            replace XK := Aside0.mk (blk_below XK.out hb)
            replace BX := Aside0.mk (blk_below BX.out hb)
            replace HW := Aside0.mk (pw_own_below HW.out hb)
            replace BX_c0 : (_ : Option Value) = some (.slice (some ⟨g, 0, none⟩) r.length r.length) := (blk_cell BX.out 0).trans rfl
            clear hkt hb hgt2
            go_wp2_with fail
            refine (ints_same r.length r (some ⟨gs2, 0, none⟩) r.length A c _ KT.out (Nat.le_refl _) (Kd.C_below HK.out HB0.out) hcr (by omega)).mono ?_
            rintro e w15 ⟨rfl, hw⟩
            have hb := hw.below
            clear hw
            replace HB0 := Aside0.mk (below_step HB0.out hb)
            replace XK := Aside0.mk (blk_below XK.out hb)
            replace BX := Aside0.mk (blk_below BX.out hb)
            replace BX_c0 : (_ : Option Value) = some (.slice (some ⟨g, 0, none⟩) r.length r.length) := (blk_cell BX.out 0).trans rfl
            replace HW := Aside0.mk (pw_own_below HW.out hb)
            clear hb
            clear KT
            go_wp2_with fail
            refine (awake_any _).mono ?_
            rintro e w16 ⟨rfl, hw⟩
            have hb := hw
            clear hw
            replace HB0 := Aside0.mk (below_step HB0.out hb)
            replace XK := Aside0.mk (blk_below XK.out hb)
            replace BX := Aside0.mk (blk_below BX.out hb)
            replace BX_c0 : (_ : Option Value) = some (.slice (some ⟨g, 0, none⟩) r.length r.length) := (blk_cell BX.out 0).trans rfl
            replace HW := Aside0.mk (pw_own_below HW.out hb)
            clear hb
            go_wp2
            go_ret
            exact ⟨rfl, below_step HBW.out HB0.out⟩
          obtain ⟨m, rfl⟩ := Int.eq_ofNat_of_zero_le (show 0 ≤ more by omega)
          have hm : m ≤ 12 := by omega
          go_wp2_with fail
          refine (was_same g r _ XK.out (by omega) HW.out).mono ?_
          rintro e w21 ⟨rfl, hw⟩
          have hb := hw.below
          clear hw
          replace HB0 := Aside0.mk (below_step HB0.out hb)
          replace XK := Aside0.mk (blk_below XK.out hb)
          replace BX := Aside0.mk (blk_below BX.out hb)
          replace BX_c0 : (_ : Option Value) = some (.slice (some ⟨g, 0, none⟩) r.length r.length) := (blk_cell BX.out 0).trans rfl
          replace HW := Aside0.mk (pw_own_below HW.out hb)
          clear hb
          go_wp2_with fail
          refine (sorted_back g r _ XK.out (by omega)).mono ?_
          rintro e wa ⟨gs, hgt2, rfl, hkt, hb⟩
          have KT := Aside0.mk (C_of_blk hkt (by omega))
          replace HB0 := Aside0.mk (below_step HB0.out hb)
          replace XK := Aside0.mk (blk_below XK.out hb)
          replace BX := Aside0.mk (blk_below BX.out hb)
          replace HW := Aside0.mk (pw_own_below HW.out hb)
          replace BX_c0 : (_ : Option Value) = some (.slice (some ⟨g, 0, none⟩) r.length r.length) := (blk_cell BX.out 0).trans rfl
          clear hkt hb hgt2
          go_wp2_with fail
          refine (ints_same r.length r (some ⟨gs, 0, none⟩) r.length A c _ KT.out (Nat.le_refl _) (Kd.C_below HK.out HB0.out) hcr (by omega)).mono ?_
          rintro e w22 ⟨rfl, hw⟩
          have hb := hw.below
          clear hw
          replace HB0 := Aside0.mk (below_step HB0.out hb)
          replace XK := Aside0.mk (blk_below XK.out hb)
          replace BX := Aside0.mk (blk_below BX.out hb)
          replace BX_c0 : (_ : Option Value) = some (.slice (some ⟨g, 0, none⟩) r.length r.length) := (blk_cell BX.out 0).trans rfl
          replace HW := Aside0.mk (pw_own_below HW.out hb)
          clear hb
          clear KT
          have LIT : Aside0 (Kd.R (Kd.int .i64) 3 (w22.alloc (.cells #[] 3)) w0.heap.size (fun _ => True) (.slice (some ⟨w22.heap.size, 0, none⟩) 0 0) (upTo 0)) := ⟨⟨fun _ _ => trivial, [], ⟨rfl, .inr ⟨_, _, _, rfl, HB0.out.size, blk_new w22 _, Nat.le_refl _, by simp, rfl, rfl⟩⟩, Reps.none _ _⟩⟩
          replace HB0 := Aside0.mk (HB0.out.alloc HB0.out.size (.cells #[] 3))
          clear XK BX BX_c0 HW
          go_wp2
          go_loopg [13, 14] (65530 + m) (fun kq vv vi w' => ∃ i : Nat, vi = .int .i64 i ∧ i ≤ 65530 + m ∧ Aside0 (kq = 65530 + m - i) ∧ Aside0 (Kd.R (Kd.int .i64) 3 w' w0.heap.size (fun _ => True) vv (upTo i)) ∧ Aside0 (Below w0.heap.size w0 w'))
          case atStart => exact ⟨0, rfl, by omega, ⟨by omega⟩, LIT, HB0⟩
          case round =>
            clear LIT HB0 hj hlt
            obtain ⟨i, rfl, hi, HKQ3, HV, HB0⟩ := hrel
            by_cases hlt : i < 65530 + m
            · go_wp2_with ((with_reducible refine gate_builtin (b := .append) (xs := #[.tmp 111, .tmp 113]) rfl ?_); at_builtin; refine Kd.R_append (Kd.int .i64) (w0 := w0) w0.heap.size rfl (.tmp 111) (.tmp 113) 22 3 (.int .i64 0) 8 rfl Try.underlying22 info_int rfl (by decide) (by omega) u13 (upTo i) (i : Int) [.int .i64 (i : Int)] (fun _ => True) (fun _ => False) rfl rfl ?aP (fun _ hk => hk.elim) ?aF ?aO ?aB ?aS ?aL ?_; (case aP => exact rfl); (case aF => exact fun _ _ => trivial); (case aO => exact HV.out); (case aB => exact HB0.out); (case aS => exact HB0.out.size); (case aL => rw [upTo_len]; omega); intro vn wn ho hb _ _; rw [← upTo_succ] at ho; have HVn := Aside0.mk ho; have HBn := Aside0.mk hb; clear ho hb)
              go_roundg (65530 + m - (i + 1))
              case measure => have := HKQ3.out; omega
              case rel => exact ⟨i + 1, by go_num, by omega, ⟨rfl⟩, HVn, HBn⟩
            · obtain rfl : i = 65530 + m := by omega
              obtain ⟨Am, cm, he, hcm, hCm⟩ := Kd.R_reads HV.out
              subst he
              have HC := Aside0.mk hCm
              have ul := upTo_len (65530 + m)
              have UR := Aside0.mk (upTo_rises (65530 + m))
              have HO1 := Aside0.mk (of_yes Am cm (upTo (65530 + m)) wr HC.out hcm · UR.out)
              have HO2 := Aside0.mk (of_long Am cm (upTo (65530 + m)) wr HC.out hcm (by omega) UR.out ·)
              clear hCm HC UR HV
              rw [ul] at HO1 HO2 hcm
              rw [ul]
              by_cases hlong : 65536 < 65530 + m
              · have g1 : (65536 : Int) < 65530 + (m : Int) := by omega
                go_wp2_with fail
                refine (HO2.out (by omega)).mono ?_
                rintro e w30 ⟨rfl, hb⟩
                have HB := Aside0.mk (below_step HBW.out (below_step HB0.out (below_alloc hb (.cells #[.slice none 0 0] 43))))
                have BZ := Aside0.mk (blk_new w30 (.cells #[.slice none 0 0] 43))
                clear hb HB0 HO1 HO2 hcm
                go_wp2_with fail
                refine (place_no 0 _ _ (by omega)).mono ?_
                rintro e w41 ⟨rfl, hb⟩
                replace HB := Aside0.mk (below_step HB.out hb)
                replace BZ := Aside0.mk (blk_below BZ.out hb)
                have BZ_c0 : (_ : Option Value) = some (.slice none 0 0) := (blk_cell BZ.out 0).trans rfl
                clear hb
                go_wp2_with fail
                refine (awake_any _).mono ?_
                rintro e w51 ⟨rfl, hw⟩
                have hb := hw
                clear hw
                replace HB := Aside0.mk (below_step HB.out hb)
                replace BZ := Aside0.mk (blk_below BZ.out hb)
                replace BZ_c0 : (_ : Option Value) = some (.slice none 0 0) := (blk_cell BZ.out 0).trans rfl
                clear hb
                go_wp2
                go_ret
                exact ⟨rfl, HB.out⟩
              · have g1 : ¬ (65536 : Int) < 65530 + (m : Int) := by omega
                go_wp2_with fail
                refine (HO1.out (by omega)).mono ?_
                rintro e w30 ⟨g9, hg9, rfl, hk9, hb⟩
                have HB := Aside0.mk (below_step HBW.out (below_step HB0.out (below_alloc hb (.cells #[.slice (some ⟨g9, 0, none⟩) (65530 + m) (65530 + m)] 43))))
                have BZ := Aside0.mk (blk_new w30 (.cells #[.slice (some ⟨g9, 0, none⟩) (65530 + m) (65530 + m)] 43))
                clear hb HB0 HO1 HO2 hcm hk9 hg9
                go_wp2_with fail
                refine (place_first _ _ (by omega) (by omega)).mono ?_
                rintro e w41 ⟨p9, rfl, hb⟩
                replace HB := Aside0.mk (below_step HB.out hb)
                replace BZ := Aside0.mk (blk_below BZ.out hb)
                have BZ_c0 : (_ : Option Value) = some (.slice (some ⟨g9, 0, none⟩) (65530 + m) (65530 + m)) := (blk_cell BZ.out 0).trans rfl
                clear hb
                go_wp2_with fail
                refine (awake_any _).mono ?_
                rintro e w51 ⟨rfl, hw⟩
                have hb := hw
                clear hw
                replace HB := Aside0.mk (below_step HB.out hb)
                replace BZ := Aside0.mk (blk_below BZ.out hb)
                replace BZ_c0 : (_ : Option Value) = some (.slice (some ⟨g9, 0, none⟩) (65530 + m) (65530 + m)) := (blk_cell BZ.out 0).trans rfl
                clear hb
                go_wp2
                go_ret
                exact ⟨rfl, HB.out⟩
theorem law {W0 : World} (A : Option Addr) (c : Nat) (l : List Int) (g : Kd.C (Kd.int .i64) W0 A l.length l) (hc : l.length ≤ c) (y : l.length * 8 ≤ 140737488351232) (w : ∀ x ∈ l, (Lit.int .i64 x).wf = true)
    (a : Int) (wa : (Lit.int .i64 a).wf = true) (W : World) (hW : W = W0 := by rfl) : Calls Try.prog 11 #[.slice A l.length c, .int .i64 a] W fun e w' => e = .returned (.bool true) ∧ Below W.heap.size W w' := by
  subst hW
  exact any A c l a W g hc (by omega)
end Go.Proofs.Ytmjfnifdgneooaa.A17
