/- The law FindRanks walked: as many keys are ahead, wherever gaps lie. -/
import Derived.Test.YtbjkncgpoengaaaDoorF11
namespace Go.Proofs.YtbjkncgpoengaaaDoor.F12
open Go.RowKit Go.Proofs.YtbjkncgpoengaaaDoorW.PrintWords Go.Proofs.YtbjkncgpoengaaaDoorW.PrintLast Go.Proofs.YtbjkncgpoengaaaDoorW.PrintMore G1 G0 Q1 G2 G3 G4 G5 G6 G7 G8 G9 G10 G11 F1 F2 S1 F4 F5 F7 F8 F9 F10 F11
set_option linter.unusedVariables false
set_option linter.unusedSimpArgs false

/-- How many keys are ahead of what a search tells. -/
def ahd (f : Nat → Bool) (n : Nat) (at_ : Int) : Nat := if at_ < 0 then cntF f n else cntF f at_.toNat
theorem ahead_any {w : World} {p sb ob wb n : Nat} {f : Nat → Bool} {xs : List Int} {vs : List Nat} (h : SlAt w p sb ob wb n f xs vs) {a : Int} (ha : a = -1 ∨ ∃ t : Nat, a = t ∧ t < n ∧ f t = true) : Calls Tryd.prog 51 #[.pointer (some ⟨p, 0, none⟩), .int .i64 a] w fun e w' => e = .returned (.int .i64 (ahd f n a)) ∧ Drawn0 w w' := by
  rcases ha with rfl | ⟨t, rfl, ht, _⟩
  · have C1 := Aside0.mk (cap_any h)
    have C2 := scount_in h (a := 0) (b := n) (by omega) (Nat.le_refl _)
    rw [show cntF f n - cntF f 0 = ahd f n (-1) by unfold ahd; rw [if_pos (by decide)]; rfl] at C2
    have C2 := Aside0.mk C2
    clear h
    go_enter Tryd.func51, Tryd.ntmps51
    go_wp2_with fail
    refine C1.out.mono ?_
    rintro e w1 ⟨rfl, rfl⟩
    go_wp2_with fail
    refine C2.out.mono ?_
    rintro e w1 ⟨rfl, hw⟩
    go_wp2
    go_ret
    exact ⟨rfl, hw⟩
  · have C2 := scount_in h (a := 0) (b := t) (by omega) (by omega)
    rw [show cntF f t - cntF f 0 = ahd f n (t : Int) by unfold ahd; rw [if_neg (by omega), Int.toNat_natCast]; rfl] at C2
    have C2 := Aside0.mk C2
    clear h
    go_enter Tryd.func51, Tryd.ntmps51
    go_wp2_with fail
    refine C2.out.mono ?_
    rintro e w1 ⟨rfl, hw⟩
    go_wp2
    go_ret
    exact ⟨rfl, hw⟩
theorem count_ons (f : Nat → Bool) (xs : List Int) (q : Int → Bool) : ∀ k, (vals (ons f xs k)).countP q = cntF (fun j => f j && q (xs.getD j 0)) k := by
  intro k
  induction k with
  | zero => rfl
  | succ k ih =>
    rw [ons_succ]
    unfold vals
    rw [List.map_append, List.countP_append]
    unfold vals at ih
    rw [ih]
    simp only [cntF]
    by_cases hf : f k = true
    · simp [hf, List.countP_cons]
    · simp [hf]
/-- It is how many keys pass the test. -/
theorem ahd_right {n : Nat} {g : Gap} {q : Int → Bool} (hm : ∀ i j, i < j → j < n → g.on i = true → g.on j = true → q (g.xs.getD j 0) = true → q (g.xs.getD i 0) = true) : ahd g.on n (srch g.on g.xs n q).1 = (vals (ons g.on g.xs n)).countP q := by
  rw [count_ons]
  unfold ahd
  rcases srch_right hm with ⟨e, h⟩ | ⟨t, e, h1, h2, h3, h4⟩
  · rw [e, if_pos (by decide)]
    refine cntF_congr fun j hj => ?_
    cases hf : g.on j with
    | false => rfl
    | true => rw [h j hj hf]; rfl
  · rw [e, if_neg (by omega), Int.toNat_natCast]
    have e2 : n = t + (n - t) := by omega
    rw [e2, cntF_add, cntF_none (n := n - t), Nat.add_zero]
    · refine cntF_congr fun j hj => ?_
      cases hf : g.on j with
      | false => rfl
      | true => rw [h4 j hj hf]; rfl
    · intro i hi
      cases hf : g.on (t + i) with
      | false => rfl
      | true =>
        rw [Bool.true_and]
        cases hq : q (g.xs.getD (t + i) 0) with
        | false => rfl
        | true =>
          by_cases c1 : i = 0
          · subst c1
            rw [Nat.add_zero, h3] at hq
            cases hq
          · rw [hm t (t + i) (by omega) (by omega) h2 hf hq] at h3
            cases h3
/-- Side by side. -/
def dens (l : List Int) (i : Nat) : Gap := ⟨fun j => decide (j < i), l.take i ++ List.replicate (l.length - i) 0⟩
theorem dens_put {l : List Int} {i : Nat} (h : i < l.length) : putR l.length (dens l i) i = 0 ∧ putS l.length (dens l i) i (l.getD i 0) = dens l (i + 1) := by
  have h0 : putR l.length (dens l i) i = 0 := putR_off h (by simp [dens])
  refine ⟨h0, ?_⟩
  unfold putS
  rw [if_pos h0, Int.toNat_natCast]
  unfold dens
  congr 1
  · funext j
    simp only [upd]
    by_cases c : j = i
    · simp [c]
    · rw [if_neg c]
      by_cases c2 : j < i
      · simp [c2]; omega
      · simp [c2]; omega
  · rw [List.set_append_right _ _ (by rw [List.length_take]; omega), List.length_take, show i - min i l.length = 0 by omega, show l.length - i = (l.length - (i + 1)) + 1 by omega, List.replicate_succ, List.set_cons_zero, List.take_succ_eq_append_getElem h, List.append_assoc]
    simp [List.getD_eq_getElem?_getD, h]
theorem dens_all (l : List Int) : dens l l.length = ⟨fun j => decide (j < l.length), l⟩ := by simp [dens]
theorem dens_vals (l : List Int) : ∀ k, k ≤ l.length → vals (ons (fun j => decide (j < l.length)) l k) = l.take k := by
  intro k
  induction k with
  | zero => intro _; rfl
  | succ k ih =>
    intro h
    rw [ons_succ]
    unfold vals at ih ⊢
    rw [List.map_append, ih (by omega), List.take_succ_eq_append_getElem (by omega), if_pos (decide_eq_true (by omega))]
    simp [List.getD_eq_getElem?_getD, show k < l.length by omega]
theorem vals_rise {n : Nat} {g : Gap} (hr : Rises n g) : ∀ k, k ≤ n → (vals (ons g.on g.xs k)).Pairwise (· < ·) ∧ ∀ x ∈ vals (ons g.on g.xs k), ∃ j, j < k ∧ g.on j = true ∧ x = g.xs.getD j 0 := by
  intro k
  induction k with
  | zero => intro _; exact ⟨.nil, fun x hx => by cases hx⟩
  | succ k ih =>
    intro h
    obtain ⟨h1, h2⟩ := ih (by omega)
    rw [ons_succ]
    unfold vals at h1 h2 ⊢
    rw [List.map_append]
    cases hf : g.on k with
    | false =>
      simp only [Bool.false_eq_true, if_false, List.map_nil, List.append_nil]
      exact ⟨h1, fun x hx => by obtain ⟨j, hj, r⟩ := h2 x hx; exact ⟨j, by omega, r⟩⟩
    | true =>
      simp only [if_true, List.map_cons, List.map_nil]
      refine ⟨List.pairwise_append.2 ⟨h1, List.pairwise_singleton _ _, fun a ha b hb => ?_⟩, fun x hx => ?_⟩
      · obtain ⟨j, hj, hj2, rfl⟩ := h2 a ha
        rw [List.mem_singleton.1 hb]
        exact hr j k hj (by omega) hj2 hf
      · rcases List.mem_append.1 hx with hx | hx
        · obtain ⟨j, hj, r⟩ := h2 x hx; exact ⟨j, by omega, r⟩
        · exact ⟨k, by omega, hf, List.mem_singleton.1 hx⟩
theorem dens_rises {l : List Int} (h : l.Pairwise (· < ·)) : Rises l.length (dens l l.length) := by
  rw [dens_all]
  intro i j hij hj _ _
  have := List.pairwise_iff_getElem.1 h i j (by omega) hj hij
  simpa [List.getD_eq_getElem?_getD, hj, show i < l.length by omega] using this
theorem half_empty {f : Nat → Bool} {xs : List Int} {n : Nat} {q : Int → Bool} (hf : ∀ j, j < n → f j = false) : ∀ (k lo hi : Nat) (r : Int) (c : Nat), hi ≤ n → half f xs n q k lo hi r c = (r, c) := by
  intro k
  induction k with
  | zero => intro lo hi r c _; rfl
  | succ k ih =>
    intro lo hi r c hn
    simp only [half]
    split
    · rfl
    · rw [next_none (fun j h1 h2 => hf j h2), if_pos (.inl (by decide))]
      exact ih _ _ _ _ (by omega)
theorem srch_empty {f : Nat → Bool} {xs : List Int} {n : Nat} {q : Int → Bool} (h : cntF f n = 0) : srch f xs n q = (-1, 0) := by
  refine half_empty (fun j hj => ?_) _ _ _ _ _ (Nat.le_refl _)
  cases hf : f j with
  | false => rfl
  | true =>
    have h1 : cntF f (j + 1) ≤ cntF f n := cntF_mono f (by omega)
    have h2 : cntF f (j + 1) = cntF f j + 1 := by simp [cntF, hf]
    omega
theorem law_no (n : Int) (A : Option Addr) (c : Nat) (l : List Ky) (key : Int) (w : World) (hT : Tb w) (h : n < 1 ∨ 5000 < n ∨ 300 < l.length) :
    Calls Tryd.prog 12 #[.agg #[.int .i64 n, .slice A l.length c], .int .i64 key] w fun e w' => e = .returned (.bool true) ∧ Below w.heap.size w w' := by
  have HS := Aside0.mk ((Sep.nil w).new_blk #[.int .i64 n, .slice A l.length c] 63)
  have HT := Aside0.mk hT
  have C := Aside0.mk (risen_no n A c l (w.alloc (.cells #[.int .i64 n, .slice A l.length c] 63)) h)
  clear hT h
  go_enter Tryd.func12, Tryd.ntmps12
  go_wp2_with fail
  refine C.out.mono ?_
  rintro e w1 ⟨rfl, hw⟩
  replace HS := Aside0.mk (HS.out.step hw)
  clear hw C
  have C := Aside0.mk (F6.awake_any _ (Kd.C_below HT.out HS.out.below))
  go_wp2_with fail
  refine C.out.mono ?_
  rintro e w20 ⟨rfl, hw⟩
  replace HS := Aside0.mk (HS.out.step hw)
  clear hw
  go_wp2
  go_ret
  exact ⟨rfl, HS.out.below⟩
set_option maxRecDepth 100000 in
set_option maxHeartbeats 2000000 in
theorem law_yes (n : Nat) (A : Option Addr) (c : Nat) (l : List Ky) (key : Int) (w : World) (hT : Tb w) (hr : Kd.C kKey w A l.length l) (h1 : 1 ≤ n) (h2 : n ≤ 5000) (h3 : l.length ≤ 300) :
    Calls Tryd.prog 12 #[.agg #[.int .i64 n, .slice A l.length c], .int .i64 key] w fun e w' => e = .returned (.bool true) ∧ Below w.heap.size w w' := by
  have hs0 := (Sep.nil w).new_blk #[.int .i64 n, .slice A l.length c] 63
  have HS := Aside0.mk hs0
  have HT := Aside0.mk hT
  have C := Aside0.mk (risen_yes n A c l _ (Kd.C_below hr hs0.below) h1 h2 h3)
  have RR := Aside0.mk (rise_rises n (layS n l))
  clear hr hs0 hT
  go_enter Tryd.func12, Tryd.ntmps12
  go_wp2_with fail
  refine C.out.mono ?_
  clear C
  rintro e w1 ⟨p, sb, ob, wb, lb, rfl, hS⟩
  generalize rise n (layS n l) = g at hS RR
  replace HS : Aside0 (Sep w w1 [Arr p sb ob wb n g]) := ⟨(HS.out.append hS).tail.init (l := [_])⟩
  clear hS
  obtain ⟨vs, hs⟩ := HS.out.arr 0 rfl
  have C := Aside0.mk (items_any hs (Kd.C_below HT.out HS.out.below))
  clear hs
  go_wp2_with fail
  refine C.out.mono ?_
  clear C
  rintro e w2 ⟨A2, c2, rfl, hc2, hC, hw, hb⟩
  have HW := Aside0.mk hw
  have HBB := Aside0.mk hb
  have hlen : (vals (ons g.on g.xs n)).length = cntF g.on n := hC.1
  clear hb hC hw
  have VR := Aside0.mk (vals_rise RR.out n (Nat.le_refl n)).1
  have V1 := Aside0.mk (ahd_right (mono_lt RR.out key))
  have V2 := Aside0.mk (ahd_right (mono_le RR.out key))
  have VE := Aside0.mk (fun h => srch_empty (f := g.on) (xs := g.xs) (n := n) (q := lt_ key) h)
  have hle := cntF_le g.on n
  generalize vals (ons g.on g.xs n) = it at *
  generalize cntF g.on n = m at *
  subst hlen
  replace HS : Aside0 (Sep w w2 [Arr p sb ob wb n g, S1.Own (.slice A2 it.length c2) it]) := ⟨HS.out.new_own HBB.out HW.out⟩
  clear HBB HW
  by_cases h0 : it.length = 0
  · have e0 := VE.out h0
    have E1 := Aside0.mk h0
    obtain ⟨vs, hs⟩ := HS.out.arr 0 rfl
    have C := Aside0.mk (lower_any hs (Kd.C_below HT.out HS.out.below) key)
    clear hs
    go_wp2_with fail
    refine C.out.mono ?_
    clear C
    rintro e w3 ⟨rfl, hw⟩
    replace HS := Aside0.mk (HS.out.step hw)
    clear hw
    rw [e0]
    clear e0
    have C := Aside0.mk (F6.awake_any _ (Kd.C_below HT.out HS.out.below))
    go_wp2_with fail
    refine C.out.mono ?_
    rintro e w20 ⟨rfl, hw⟩
    replace HS := Aside0.mk (HS.out.step hw)
    clear hw
    go_wp2
    go_ret
    exact ⟨rfl, HS.out.below⟩
  · have h1' : 1 ≤ it.length := by omega
    have g0 : ((it.length : Int) == 0) = false := beq_eq_false_iff_ne.2 (by omega)
    have g1 : it.length ≤ 5000 := by omega
    clear VE
    go_wp2_with fail
    refine (gnew_yes it.length _ h1' (by omega)).mono ?_
    rintro e w3 ⟨p2, sb2, ob2, wb2, rfl, hb4, hS, hB⟩
    replace HS : Aside0 (Sep w w3 [Arr p sb ob wb n g, S1.Own (.slice A2 it.length c2) it, Arr p2 sb2 ob2 wb2 it.length (dens it 0)]) := ⟨HS.out.new_arr (s := dens it 0) hB ⟨_, by unfold dens; simpa using hS⟩ hb4⟩
    clear hb4 hS hB
    go_wp2
    go_loopg [12] it.length (fun kq v12 w' => ∃ i : Nat, v12 = .int .i64 i ∧ i ≤ it.length ∧ Aside0 (it.length - i ≤ kq) ∧ Aside0 (Sep w w' [Arr p sb ob wb n g, S1.Own (.slice A2 it.length c2) it, Arr p2 sb2 ob2 wb2 it.length (dens it i)]))
    case atStart => exact ⟨0, rfl, by omega, ⟨by omega⟩, HS⟩
    case round =>
      clear HS
      obtain ⟨i, rfl, hi, HQ, HS⟩ := hrel
      by_cases hlt : i < it.length
      · obtain ⟨gk, rfl⟩ : ∃ m, gk = m + 1 := ⟨gk - 1, by have := HQ.out; omega⟩
        obtain ⟨ad, e, hx⟩ := Kd.at_int (HS.out.row 1 rfl).2.2 (i : Int) (by omega) (by omega)
        cases e
        rw [Int.toNat_natCast, show rd it (i : Int) = it.getD i 0 from rfl] at hx
        obtain ⟨d1, d2⟩ := dens_put hlt
        have D1 := Aside0.mk d1
        have D2 := Aside0.mk d2
        clear d1 d2
        generalize it.getD i 0 = x at *
        have C := put_any (HS.out.arr 2 rfl) i x
        rw [D1.out, D2.out] at C
        have C := Aside0.mk C
        go_wp2_with fail
        refine C.out.mono ?_
        rintro e w4 ⟨rfl, hs, ho⟩
        replace HS := Aside0.mk (HS.out.turn_arr 2 rfl ho hs)
        clear hs ho hx C
        go_wp2
        go_roundg gk
        case measure => omega
        case rel => exact ⟨i + 1, by go_num, by omega, ⟨by have := HQ.out; omega⟩, HS⟩
      · obtain rfl : it.length = i := by omega
        have hd := dens_rises VR.out
        have U1 := ahd_right (mono_lt hd key)
        have U2 := ahd_right (mono_le hd key)
        have SA := Aside0.mk (fun q => srch_at (dens it it.length).on (dens it it.length).xs it.length q)
        have SB := Aside0.mk (fun q => srch_at g.on g.xs n q)
        have ev : vals (ons (dens it it.length).on (dens it it.length).xs it.length) = it := by
          rw [dens_all]
          have := dens_vals it it.length (Nat.le_refl _)
          rwa [List.take_length] at this
        rw [ev] at U1 U2
        have U1 := Aside0.mk U1
        have U2 := Aside0.mk U2
        clear hd ev
        generalize dens it it.length = g2 at *
        obtain ⟨vs, hs⟩ := HS.out.arr 0 rfl
        have C := Aside0.mk (lower_any hs (Kd.C_below HT.out HS.out.below) key)
        clear hs
        go_wp2_with fail
        refine C.out.mono ?_
        clear C
        rintro e w4 ⟨rfl, hw⟩
        replace HS := Aside0.mk (HS.out.step hw)
        clear hw
        obtain ⟨vs, hs⟩ := HS.out.arr 2 rfl
        have C := Aside0.mk (lower_any hs (Kd.C_below HT.out HS.out.below) key)
        clear hs
        go_wp2_with fail
        refine C.out.mono ?_
        clear C
        rintro e w5 ⟨rfl, hw⟩
        replace HS := Aside0.mk (HS.out.step hw)
        clear hw
        obtain ⟨vs, hs⟩ := HS.out.arr 0 rfl
        have C := Aside0.mk (upper_any hs (Kd.C_below HT.out HS.out.below) key)
        clear hs
        go_wp2_with fail
        refine C.out.mono ?_
        clear C
        rintro e w6 ⟨rfl, hw⟩
        replace HS := Aside0.mk (HS.out.step hw)
        clear hw
        obtain ⟨vs, hs⟩ := HS.out.arr 2 rfl
        have C := Aside0.mk (upper_any hs (Kd.C_below HT.out HS.out.below) key)
        clear hs
        go_wp2_with fail
        refine C.out.mono ?_
        clear C
        rintro e w7 ⟨rfl, hw⟩
        replace HS := Aside0.mk (HS.out.step hw)
        clear hw
        obtain ⟨vs, hs⟩ := HS.out.arr 0 rfl
        have C := ahead_any hs (SB.out (lt_ key))
        rw [V1.out] at C
        have C := Aside0.mk C
        clear hs
        go_wp2_with fail
        refine C.out.mono ?_
        clear C
        rintro e w8 ⟨rfl, hw⟩
        replace HS := Aside0.mk (HS.out.step hw.below)
        clear hw
        obtain ⟨vs, hs⟩ := HS.out.arr 2 rfl
        have C := ahead_any hs (SA.out (lt_ key))
        rw [U1.out] at C
        have C := Aside0.mk C
        clear hs
        go_wp2_with fail
        refine C.out.mono ?_
        clear C
        rintro e w9 ⟨rfl, hw⟩
        replace HS := Aside0.mk (HS.out.step hw.below)
        clear hw
        obtain ⟨vs, hs⟩ := HS.out.arr 0 rfl
        have C := ahead_any hs (SB.out (le_ key))
        rw [V2.out] at C
        have C := Aside0.mk C
        clear hs
        go_wp2_with fail
        refine C.out.mono ?_
        clear C
        rintro e w10 ⟨rfl, hw⟩
        replace HS := Aside0.mk (HS.out.step hw.below)
        clear hw
        obtain ⟨vs, hs⟩ := HS.out.arr 2 rfl
        have C := ahead_any hs (SA.out (le_ key))
        rw [U2.out] at C
        have C := Aside0.mk C
        clear hs
        go_wp2_with fail
        refine C.out.mono ?_
        clear C
        rintro e w11 ⟨rfl, hw⟩
        replace HS := Aside0.mk (HS.out.step hw.below)
        clear hw
        have C := Aside0.mk (F6.awake_any _ (Kd.C_below HT.out HS.out.below))
        go_wp2_with fail
        refine C.out.mono ?_
        rintro e w20 ⟨rfl, hw⟩
        replace HS := Aside0.mk (HS.out.step hw)
        clear hw
        go_wp2
        go_ret
        exact ⟨rfl, HS.out.below⟩
theorem law (n : Int) (wn : (Lit.int .i64 n).wf = true) (A : Option Addr) (c : Nat) (l : List Ky) {W0 : World} (g : Kd.C kKey W0 A l.length l) (key : Int) (wk : (Lit.int .i64 key).wf = true) (W : World) (hT : Tb W) (hW : W = W0 := by rfl) :
    Calls Tryd.prog 12 #[.agg #[.int .i64 n, .slice A l.length c], .int .i64 key] W fun e w' => e = .returned (.bool true) ∧ Below W.heap.size W w' := by
  subst hW
  by_cases h : n < 1 ∨ 5000 < n ∨ 300 < l.length
  · exact law_no n A c l key W hT h
  · obtain ⟨m, rfl⟩ := Int.eq_ofNat_of_zero_le (show 0 ≤ n by omega)
    exact law_yes m A c l key W hT g (by omega) (by omega) (by omega)
end Go.Proofs.YtbjkncgpoengaaaDoor.F12
