/- The law BlockOwn walked: it returns true, whatever the keys, the bits. -/
import Derived.Test.YthhmiieimfdffaaC12
namespace Go.Proofs.Ythhmiieimfdffaa.C13
open Go.RowKit Go.Proofs.YthhmiieimfdffaaW.PrintWords Go.Proofs.YthhmiieimfdffaaW.PrintLast Go.Proofs.YthhmiieimfdffaaW.PrintMore C1 C2 C3 C4 C5 C6 C7 C8 C9 C10 C11 C12 Q1
set_option linter.unusedVariables false
set_option linter.unusedSimpArgs false

theorem own_of_R {w : World} {base e : Nat} {ok : Nat → Prop} {v : Value} {xs : List Int} (h : Kd.R (Kd.int .i64) e w base ok v xs) : w.ownsRow base e 1 v xs.length (nums .i64 xs) := by
  obtain ⟨_, inner, ho, hr⟩ := h
  have e1 : inner = nums .i64 xs := Kd.reps_encs (enc := Value.int .i64) hr
  rw [e1] at ho
  exact ho
set_option maxHeartbeats 1000000 in
theorem own_no (A0 : Option Addr) (c0 : Nat) (l : List Int) (b : Int) (w : World) (hr : Kd.C (Kd.int .i64) w A0 l.length l) (hc : l.length ≤ c0) (hlen : l.length ≤ 200) (h : (bitsB b && risingB l) = false) :
    Calls Try.prog 5 #[.slice A0 l.length c0, .int .i64 b] w fun e w' => e = .returned (.bool true) ∧ Below w.heap.size w w' := by
  have HR := Aside0.mk hr
  have HB := Aside0.mk (Below.refl w.heap.size w)
  have HH := Aside0.mk h
  have LIT : Aside0 (Kd.R (Kd.int .i64) 3 (w.alloc (.cells #[] 3)) w.heap.size (fun _ => True) (.slice (some ⟨w.heap.size, 0, none⟩) 0 0) []) := ⟨⟨fun _ _ => trivial, [], ⟨rfl, .inr ⟨_, _, _, rfl, Nat.le_refl _, blk_new w _, Nat.le_refl _, by simp, rfl, rfl⟩⟩, Reps.none _ _⟩⟩
  clear hr h
  go_enter Try.func5, Try.ntmps5
  go_wp2_with ((with_reducible refine gate_builtin (b := .append) (xs := #[.tmp 18, .tmp 19]) rfl ?_); at_builtin; refine Kd.R_append_rows (Kd.int .i64) (w0 := w) w.heap.size rfl (.tmp 18) (.tmp 19) 22 3 (.int .i64 0) 8 rfl Try.underlying22 info_int rfl (by decide) (by omega) _ [] l A0 l.length c0 (fun _ => True) (fun _ => False) rfl rfl LIT.out (Kd.C_alloc HR.out _) (fun _ _ h => h) (fun _ h => h.elim) (fun _ _ => trivial) (below_alloc (Below.refl _ _) _) (by simp) (by simp; omega) ?_; intro vh w1 hR hB _ _; rw [List.nil_append] at hR; obtain ⟨Ah, ch, rfl, hlh, hCh⟩ := Kd.R_reads hR; have HO := Aside0.mk (own_of_R hR); replace HB := Aside0.mk hB; have h01 := hB.size; have HCh := Aside0.mk hCh; replace HR := Aside0.mk (Kd.C_below HR.out hB); clear hR hB hCh)
  clear LIT
  refine (of_no Ah ch l b _ HCh.out hlh (by omega) HH.out).mono ?_
  rintro e x1 ⟨er, rfl, her, hb⟩
  have hb2 := below_alloc hb (.cells #[.int .i64 0, .slice none 0 0] 25)
  replace HB := Aside0.mk (below_step HB.out hb2)
  replace HR := Aside0.mk (Kd.C_below HR.out hb2)
  replace HCh := Aside0.mk (Kd.C_below HCh.out hb2)
  clear hb hb2 HO
  have he1 : (er != 0) = true := by simpa using her
  go_wp2_with fail
  refine (ints_same l.length l Ah ch A0 c0 _ HCh.out hlh HR.out hc rfl (by omega)).mono ?_
  rintro e w1 ⟨rfl, hw⟩
  have hb := hw.below
  clear hw
  replace HB := Aside0.mk (below_step HB.out hb)
  clear hb
  go_wp2_with fail
  refine (awake_any _).mono ?_
  rintro e w2 ⟨rfl, hw⟩
  have hb := hw
  clear hw
  replace HB := Aside0.mk (below_step HB.out hb)
  clear hb
  go_wp2
  go_ret
  exact ⟨rfl, HB.out⟩
theorem C_kept {w w' : World} {A : Option Addr} {n B : Nat} {l : List Int} {w0 : World} (h : Kd.C (Kd.int .i64) w0 A n l) (hb : Below w0.heap.size w0 w') : Kd.C (Kd.int .i64) w' A n l := Kd.C_below h hb
set_option maxHeartbeats 4000000 in
theorem own_yes (A0 : Option Addr) (c0 : Nat) (l : List Int) (b : Nat) (h1 : 1 ≤ b) (h2 : b ≤ 10) (w : World) (hr : Kd.C (Kd.int .i64) w A0 l.length l) (hc : l.length ≤ c0) (hlen : l.length ≤ 200) (h : risingB l = true) :
    Calls Try.prog 5 #[.slice A0 l.length c0, .int .i64 b] w fun e w' => e = .returned (.bool true) ∧ Below w.heap.size w w' := by
  have HP := Aside0.mk (And.intro h1 h2)
  have H0 := Aside0.mk hr
  clear h1 h2
  have HR := Aside0.mk hr
  have HB := Aside0.mk (Below.refl w.heap.size w)
  have HH := Aside0.mk h
  have LIT : Aside0 (Kd.R (Kd.int .i64) 3 (w.alloc (.cells #[] 3)) w.heap.size (fun _ => True) (.slice (some ⟨w.heap.size, 0, none⟩) 0 0) []) := ⟨⟨fun _ _ => trivial, [], ⟨rfl, .inr ⟨_, _, _, rfl, Nat.le_refl _, blk_new w _, Nat.le_refl _, by simp, rfl, rfl⟩⟩, Reps.none _ _⟩⟩
  clear hr h
  go_enter Try.func5, Try.ntmps5
  go_wp2_with ((with_reducible refine gate_builtin (b := .append) (xs := #[.tmp 18, .tmp 19]) rfl ?_); at_builtin; refine Kd.R_append_rows (Kd.int .i64) (w0 := w) w.heap.size rfl (.tmp 18) (.tmp 19) 22 3 (.int .i64 0) 8 rfl Try.underlying22 info_int rfl (by decide) (by omega) _ [] l A0 l.length c0 (fun _ => True) (fun _ => False) rfl rfl LIT.out (Kd.C_alloc HR.out _) (fun _ _ h => h) (fun _ h => h.elim) (fun _ _ => trivial) (below_alloc (Below.refl _ _) _) (by simp) (by simp; omega) ?_; intro vh w1 hR hB _ _; rw [List.nil_append] at hR; obtain ⟨Ah, ch, rfl, hlh, hCh⟩ := Kd.R_reads hR; have HO := Aside0.mk (own_of_R hR); replace HB := Aside0.mk hB; have h01 := hB.size; have HCh := Aside0.mk hCh; replace HR := Aside0.mk (Kd.C_below HR.out hB); clear hR hB hCh)
  clear LIT
  refine (of_yes Ah ch l b _ HCh.out hlh (by omega) HP.out.1 HP.out.2 HH.out).mono ?_
  rintro e w2 ⟨g, hg2, rfl, hk, hb⟩
  have hb2 := below_alloc hb (.cells #[.int .i64 b, .slice (some ⟨g, 0, none⟩) l.length l.length] 25)
  have XK := Aside0.mk (blk_alloc hk (.cells #[.int .i64 b, .slice (some ⟨g, 0, none⟩) l.length l.length] 25))
  have BX := Aside0.mk (blk_new w2 (.cells #[.int .i64 b, .slice (some ⟨g, 0, none⟩) l.length l.length] 25))
  have hgh : ∀ q, (Value.slice Ah l.length ch).ownBlock = some q → q < g := fun q hq => by
    have := own_lt HO.out q hq
    omega
  have hgx : g < w2.heap.size := blk_lt hk
  replace HB := Aside0.mk (below_step HB.out hb2)
  replace HR := Aside0.mk (Kd.C_below HR.out hb2)
  replace HO := Aside0.mk (pw_own_below HO.out hb2)
  clear hb hb2 hk HCh
  have hwh : w.heap.size ≤ g := by omega
  go_wp2
  generalize w2.heap.size = bx at *
  go_loopg [8] l.length (fun kq vi w' => ∃ i : Nat, vi = .int .i64 i ∧ i ≤ l.length ∧ Aside0 (kq = l.length - i) ∧ Aside0 (∃ ys : List Int, w'.ownsRow w.heap.size 3 1 (.slice Ah l.length ch) l.length (nums .i64 ys))
    ∧ Aside0 (w'.heap[g]? = some (.cells (nums .i64 (layOf l (wd b))).toArray 3 (0, 0))) ∧ Aside0 (w'.heap[bx]? = some (.cells #[.int .i64 b, .slice (some ⟨g, 0, none⟩) l.length l.length] 25 (0, 0))) ∧ Aside0 (Below w.heap.size w w') ∧ Aside0 (Kd.C (Kd.int .i64) w' A0 l.length l))
  case atStart => exact ⟨0, rfl, by omega, ⟨by omega⟩, ⟨l, HO.out⟩, XK, BX, HB, HR⟩
  case round =>
    clear HO XK BX HB HR
    obtain ⟨i, rfl, hi, HKQ, HO, XK, BX, HB, HR⟩ := hrel
    by_cases hlt : i < l.length
    · obtain ⟨ys, hys⟩ := HO.out
      obtain ⟨gh, cap, he, _, _⟩ := hys.form (by omega)
      simp only [Value.slice.injEq, true_and] at he
      obtain ⟨rfl, rfl⟩ := he
      have hgg : gh < g := hgh gh rfl
      have hyl : ys.length = l.length := by have := hys.1; simpa [nums] using this
      obtain ⟨u0, hu0⟩ : ∃ u0, wr.cell? ⟨gh, i, none⟩ = some (.int .i64 u0) := ⟨ys.getD i 0, by rw [hys.cellAt i (by omega)]; simp [nums, List.getD_eq_getElem?_getD, show i < ys.length by omega]⟩
      have fu0 := hys.frozenAt i
      have hst := hys.stored i (.int .i64 (-7))
      have hset : (nums .i64 ys).set i (.int .i64 (-7)) = nums .i64 (ys.set i (-7)) := by simp [nums, List.map_set]
      rw [hset] at hst
      have HST := Aside0.mk hst
      clear hst hset hys hyl HO
      go_wp2
      go_roundg (l.length - (i + 1))
      case measure => have := HKQ.out; omega
      case rel =>
        have hB := HB.out.setCell (p := ⟨gh, i, none⟩) (own_base HST.out.1 gh rfl) (.int .i64 (-7))
        exact ⟨i + 1, by go_num, by omega, ⟨rfl⟩, ⟨⟨_, HST.out.1⟩⟩, ⟨blk_far XK.out (by show g ≠ gh; omega) _⟩, ⟨blk_far BX.out (by show bx ≠ gh; omega) _⟩, ⟨hB⟩, ⟨Kd.C_below H0.out hB⟩⟩
    · clear HO
      have BX_c0 : (_ : Option Value) = some (.int .i64 b) := (blk_cell BX.out 0).trans rfl
      have BX_c1 : (_ : Option Value) = some (.slice (some ⟨g, 0, none⟩) l.length l.length) := (blk_cell BX.out 1).trans rfl
      go_wp2_with fail
      refine (sorted_back HP.out.1 HP.out.2 g l (by omega) _ XK.out).mono ?_
      rintro e w5 ⟨gt, rfl, hgt, hkt, hb⟩
      have hbx2 := blk_lt BX.out
      have hg2 := blk_lt XK.out
      replace HB := Aside0.mk (below_step HB.out hb)
      replace XK := Aside0.mk (blk_below XK.out hb)
      replace BX := Aside0.mk (blk_below BX.out hb)
      replace HR := Aside0.mk (Kd.C_below HR.out hb)
      have KT := Aside0.mk hkt
      have hw0 : w.heap.size ≤ gt := by omega
      clear hkt hb BX_c0 BX_c1
      have HE := Aside0.mk (fun (w : World) (hk : w.heap[gt]? = some (.cells (nums .i64 l).toArray 3 (0, 0))) (hr : Kd.C (Kd.int .i64) w A0 l.length l) => ints_same l.length l (some ⟨gt, 0, none⟩) l.length A0 c0 w (C_of_blk hk (by omega)) (Nat.le_refl _) hr hc rfl (by omega))
      go_wp2_with fail
      refine (HE.out _ KT.out HR.out).mono ?_
      rintro e w1 ⟨rfl, hw⟩
      have hb := hw.below
      clear hw
      replace HB := Aside0.mk (below_step HB.out hb)
      replace HR := Aside0.mk (Kd.C_below HR.out hb)
      replace XK := Aside0.mk (blk_below XK.out hb)
      replace KT := Aside0.mk (blk_below KT.out hb)
      replace BX := Aside0.mk (blk_below BX.out hb)
      clear hb
      clear HE
      go_wp2
      go_loopg [11] l.length (fun kq vi w' => ∃ i : Nat, vi = .int .i64 i ∧ i ≤ l.length ∧ Aside0 (kq = l.length - i) ∧ Aside0 (∃ ys : List Int, ys.length = l.length ∧ w'.heap[gt]? = some (.cells (nums .i64 ys).toArray 3 (0, 0)))
        ∧ Aside0 (w'.heap[g]? = some (.cells (nums .i64 (layOf l (wd b))).toArray 3 (0, 0))) ∧ Aside0 (w'.heap[bx]? = some (.cells #[.int .i64 b, .slice (some ⟨g, 0, none⟩) l.length l.length] 25 (0, 0))) ∧ Aside0 (Below w.heap.size w w') ∧ Aside0 (Kd.C (Kd.int .i64) w' A0 l.length l))
      case atStart => exact ⟨0, rfl, by omega, ⟨by omega⟩, ⟨l, rfl, KT.out⟩, XK, BX, HB, HR⟩
      case round =>
        clear KT XK BX HB HR hlt hi
        obtain ⟨j, rfl, hj, HKQ2, KT, XK, BX, HB, HR⟩ := hrel
        by_cases hlt : j < l.length
        · obtain ⟨ys, hyl, hys⟩ := KT.out
          have hcell : wr.cell? ⟨gt, j, none⟩ = some (.int .i64 (ys.getD j 0)) := by rw [blk_cell hys j]; simp [nums, List.getD_eq_getElem?_getD, show j < ys.length by omega]
          have hfr := blk_frozen hys j
          generalize ys.getD j 0 = y0 at hcell
          have hset : ∀ v : Int, (nums .i64 ys).toArray.setIfInBounds j (.int .i64 v) = (nums .i64 (ys.set j v)).toArray := fun v => nums_set ys j v
          have HST := Aside0.mk (And.intro hys (And.intro hyl hset))
          clear hset hys hyl KT
          go_wp2
          go_roundg (l.length - (j + 1))
          case measure => have := HKQ2.out; omega
          case rel =>
            have hB := HB.out.setCell (p := ⟨gt, j, none⟩) hw0 (.int .i64 (-9))
            refine ⟨j + 1, by go_num, by omega, ⟨rfl⟩, ⟨⟨ys.set j (-9), by rw [List.length_set]; exact HST.out.2.1, ?_⟩⟩, ⟨blk_far XK.out (by show g ≠ gt; omega) _⟩, ⟨blk_far BX.out (by show bx ≠ gt; omega) _⟩, ⟨hB⟩, ⟨Kd.C_below H0.out hB⟩⟩
            rw [← HST.out.2.2]
            exact blk_set HST.out.1 j _
        · clear KT
          have BX_c0 : (_ : Option Value) = some (.int .i64 b) := (blk_cell BX.out 0).trans rfl
          have BX_c1 : (_ : Option Value) = some (.slice (some ⟨g, 0, none⟩) l.length l.length) := (blk_cell BX.out 1).trans rfl
          go_wp2_with fail
          refine (sorted_back HP.out.1 HP.out.2 g l (by omega) _ XK.out).mono ?_
          rintro e w7 ⟨gs, rfl, hgs, hks, hb⟩
          replace HB := Aside0.mk (below_step HB.out hb)
          replace HR := Aside0.mk (Kd.C_below HR.out hb)
          have KS := Aside0.mk hks
          clear hks hb BX_c0 BX_c1 BX XK
          have HE := Aside0.mk (fun (w : World) (hk : w.heap[gs]? = some (.cells (nums .i64 l).toArray 3 (0, 0))) (hr : Kd.C (Kd.int .i64) w A0 l.length l) => ints_same l.length l (some ⟨gs, 0, none⟩) l.length A0 c0 w (C_of_blk hk (by omega)) (Nat.le_refl _) hr hc rfl (by omega))
          go_wp2_with fail
          refine (HE.out _ KS.out HR.out).mono ?_
          rintro e w2 ⟨rfl, hw⟩
          have hb := hw.below
          clear hw
          replace HB := Aside0.mk (below_step HB.out hb)
          replace HR := Aside0.mk (Kd.C_below HR.out hb)
          clear hb
          go_wp2_with fail
          refine (awake_any _).mono ?_
          rintro e w3 ⟨rfl, hw⟩
          have hb := hw
          clear hw
          replace HB := Aside0.mk (below_step HB.out hb)
          replace HR := Aside0.mk (Kd.C_below HR.out hb)
          clear hb
          go_wp2
          go_ret
          exact ⟨rfl, HB.out⟩
theorem any (A0 : Option Addr) (c0 : Nat) (l : List Int) (b : Int) (w : World) (hr : Kd.C (Kd.int .i64) w A0 l.length l) (hc : l.length ≤ c0) (hlen : l.length ≤ 100000000000000) :
    Calls Try.prog 5 #[.slice A0 l.length c0, .int .i64 b] w fun e w' => e = .returned (.bool true) ∧ Below w.heap.size w w' := by
  by_cases h2 : 200 < l.length
  · clear hr
    go_enter Try.func5, Try.ntmps5
    go_wp2_with fail
    refine (awake_any _).mono ?_
    rintro e w1 ⟨rfl, hb⟩
    go_wp2
    go_ret
    exact ⟨rfl, hb⟩
  · cases h : (bitsB b && risingB l) with
    | false => exact own_no A0 c0 l b w hr hc (by omega) h
    | true =>
      rw [Bool.and_eq_true] at h
      have hb2 := of_decide_eq_true h.1
      obtain ⟨n, rfl⟩ := Int.eq_ofNat_of_zero_le (show 0 ≤ b by omega)
      exact own_yes A0 c0 l n (by omega) (by omega) w hr hc (by omega) h.2
theorem law {W0 : World} (A : Option Addr) (c : Nat) (l : List Int) (g : Kd.C (Kd.int .i64) W0 A l.length l) (hc : l.length ≤ c) (y : l.length * 8 ≤ 140737488351232) (w : ∀ x ∈ l, (Lit.int .i64 x).wf = true)
    (a : Int) (wa : (Lit.int .i64 a).wf = true) (W : World) (hW : W = W0 := by rfl) : Calls Try.prog 5 #[.slice A l.length c, .int .i64 a] W fun e w' => e = .returned (.bool true) ∧ Below W.heap.size W w' := by
  subst hW
  exact any A c l a W g hc (by omega)
end Go.Proofs.Ythhmiieimfdffaa.C13
