/- The law GapsPlays walked. -/
import Derived.Test.YtbjkncgpoengaaaDoorR1
import Derived.Test.YtbjkncgpoengaaaDoorG12
import Derived.Test.YtbjkncgpoengaaaDoorK2
namespace Go.Proofs.YtbjkncgpoengaaaDoor.R2
open Go.RowKit Go.Proofs.YtbjkncgpoengaaaDoorW.PrintWords Go.Proofs.YtbjkncgpoengaaaDoorW.PrintLast Go.Proofs.YtbjkncgpoengaaaDoorW.PrintMore G1 G0 Q1 G2 G3 G4 G5 G6 G7 G8 G9 G10 G11 G12 S1 R1
set_option linter.unusedVariables false
set_option linter.unusedSimpArgs false

/-- What a slot tells. -/
def atB (n : Nat) (s : Gap) (i : Int) : Bool := inR n i && s.on i.toNat
def atV (n : Nat) (s : Gap) (i : Int) : Int := if atB n s i then s.xs.getD i.toNat 0 else 0
theorem at_gap {w : World} {p sb ob wb n : Nat} {s : Gap} (h : Is w p sb ob wb n s) (i : Int) : Calls Tryd.prog 27 #[.pointer (some ⟨p, 0, none⟩), .int .i64 i] w fun e w' => e = .returned (.tuple #[.int .i64 (atV n s i), .bool (atB n s i)]) ∧ w = w' := by
  obtain ⟨vs, h⟩ := h
  unfold atV
  by_cases hi : 0 ≤ i ∧ i < n
  · obtain ⟨k, rfl⟩ := Int.eq_ofNat_of_zero_le hi.1
    cases hf : s.on k with
    | true =>
      have e : atB n s (k : Int) = true := by unfold atB inR; rw [decide_eq_true hi, Int.toNat_natCast, hf]; rfl
      rw [e, if_pos rfl, Int.toNat_natCast]
      exact at_on h (by omega) hf
    | false =>
      have e : atB n s (k : Int) = false := by unfold atB inR; rw [decide_eq_true hi, Int.toNat_natCast, hf]; rfl
      rw [e, if_neg (by decide)]
      exact at_off h (.inr (.inr (by rw [Int.toNat_natCast]; exact hf)))
  · have e : atB n s i = false := by unfold atB inR; rw [decide_eq_false hi]; rfl
    rw [e, if_neg (by decide)]
    exact at_off h (by omega)
/-- A slot that is free holds nothing. -/
def Cl (g : Gap) : Prop := ∀ i, g.on i = false → g.xs.getD i 0 = 0
theorem getD_set (xs : List Int) (i j : Nat) (x : Int) : (xs.set i x).getD j 0 = if i = j ∧ i < xs.length then x else xs.getD j 0 := by
  rw [List.getD_eq_getElem?_getD, List.getD_eq_getElem?_getD, List.getElem?_set]
  by_cases c : i = j
  · subst c
    by_cases c2 : i < xs.length
    · simp [c2]
    · simp [c2]
  · simp [c]
theorem cl_zero (n : Nat) : Cl ⟨fun _ => false, List.replicate n 0⟩ := fun i _ => by
  rw [List.getD_eq_getElem?_getD]
  simp [List.getElem?_replicate]
  split <;> rfl
theorem cl_set {g : Gap} (h : Cl g) (i : Nat) (x : Int) : Cl ⟨upd g.on i true, g.xs.set i x⟩ := by
  intro j hj
  show (g.xs.set i x).getD j 0 = 0
  rw [getD_set]
  by_cases c : j = i
  · subst c; simp [upd] at hj
  · rw [if_neg (by omega)]
    exact h j (by simpa [upd, c] using hj)
theorem cl_off {g : Gap} (h : Cl g) (i : Nat) : Cl ⟨upd g.on i false, g.xs.set i 0⟩ := by
  intro j hj
  show (g.xs.set i 0).getD j 0 = 0
  rw [getD_set]
  by_cases c : i = j ∧ i < g.xs.length
  · rw [if_pos c]
  · rw [if_neg c]
    by_cases c2 : j = i
    · subst c2
      rw [List.getD_eq_getElem?_getD, List.getElem?_eq_none (by omega)]
      rfl
    · exact h j (by simpa [upd, c2] using hj)
theorem cl_act {n : Nat} {g : Gap} (h : Cl g) (a : Cal) : Cl (actS n g a) := by
  unfold actS
  split
  · unfold putS; split
    · exact cl_set h _ _
    · exact h
  · split
    · unfold takeS; split
      · exact cl_off h _
      · exact h
    · unfold moveS; split
      · exact cl_set (cl_off h _) _ _
      · exact h
theorem cl_run (n : Nat) (l : List Cal) : Cl (runL n l) := by
  unfold runL
  have go : ∀ (l : List Cal) (g : Gap), Cl g → Cl (l.foldl (actS n) g) := by
    intro l
    induction l with
    | nil => intro g h; exact h
    | cons k l ih => intro g h; exact ih _ (cl_act h _)
  exact go l _ (cl_zero n)
theorem plays_any {w : World} {r lb n : Nat} {s : Gap} (h : RefAt w r lb n s) (a : Cal) : Calls Tryd.prog 30 #[.pointer (some ⟨r, 0, none⟩), .agg #[.int .i64 a.d, .int .i64 a.i, .int .i64 a.x]] w fun e w' => e = .returned (.tuple #[.int .i64 (actR n s a).1, .int .i64 (actR n s a).2]) ∧ RefAt w' r lb n (actS n s a) ∧ Only (· = lb) w w' := by
  obtain ⟨d, i, x⟩ := a
  have B := below_alloc (Below.refl w.heap.size w) (.cells #[.int .i64 d, .int .i64 i, .int .i64 x] 32)
  have h2 := h.below B
  have HB := Aside0.mk B
  unfold actR actS
  dsimp only
  by_cases h0 : d = 0
  · subst h0
    have H := Aside0.mk (rput_any h2 i x)
    rw [if_pos rfl, if_pos rfl]
    clear h h2 B
    go_enter Tryd.func30, Tryd.ntmps30
    go_wp2_with fail
    refine H.out.mono ?_
    rintro e w1 ⟨rfl, h3, h4⟩
    have H3 := Aside0.mk (And.intro h3 h4)
    clear h3 h4
    go_wp2
    go_ret2
    exact ⟨rfl, H3.out.1, (Only.of_below HB.out).trans H3.out.2⟩
  · by_cases h1 : d = 1
    · subst h1
      have H := Aside0.mk (rtake_any h2 i)
      rw [if_neg (show ¬ (1 : Int) = 0 by decide), if_pos rfl, if_neg (show ¬ (1 : Int) = 0 by decide), if_pos rfl]
      clear h h2 B h0
      generalize takeR n s i = q at *
      go_enter Tryd.func30, Tryd.ntmps30
      go_wp2_with fail
      refine H.out.mono ?_
      rintro e w1 ⟨rfl, h3, h4⟩
      have H3 := Aside0.mk (And.intro h3 h4)
      clear h3 h4
      go_wp2
      go_ret2
      exact ⟨rfl, H3.out.1, (Only.of_below HB.out).trans H3.out.2⟩
    · have H := Aside0.mk (rmove_any h2 i x)
      have g0 : (d == 0) = false := beq_eq_false_iff_ne.2 h0
      have g1 : (d == 1) = false := beq_eq_false_iff_ne.2 h1
      rw [if_neg h0, if_neg h1, if_neg h0, if_neg h1]
      clear h h2 B h0 h1
      go_enter Tryd.func30, Tryd.ntmps30
      go_wp2_with fail
      refine H.out.mono ?_
      rintro e w1 ⟨rfl, h3, h4⟩
      have H3 := Aside0.mk (And.intro h3 h4)
      clear h3 h4
      go_wp2
      go_ret2
      exact ⟨rfl, H3.out.1, (Only.of_below HB.out).trans H3.out.2⟩
theorem plays_asleep (n a : Int) (A : Option Addr) (c : Nat) (l : List Cal) (w : World) (hT : Tb w) (h : (200 < n ∧ n ≤ 65536) ∨ 100 < l.length) :
    Calls Tryd.prog 5 #[.int .i64 n, .slice A l.length c, .int .i64 a] w fun e w' => e = .returned (.bool true) ∧ Below w.heap.size w w' := by
  have HS := Aside0.mk (Sep.nil w)
  have HT := Aside0.mk hT
  clear hT
  by_cases h1 : 200 < n ∧ n ≤ 65536
  · obtain ⟨h1, h2⟩ := h1
    clear h
    go_enter Tryd.func5, Tryd.ntmps5
    have C := Aside0.mk (awake_any _ (Kd.C_below HT.out HS.out.below))
    go_wp2_with fail
    refine C.out.mono ?_
    rintro e w30 ⟨rfl, hw⟩
    replace HS := Aside0.mk (HS.out.step hw)
    clear hw C
    go_wp2
    go_ret
    exact ⟨rfl, HS.out.below⟩
  · have h3 : 100 < l.length := by omega
    clear h
    by_cases h4 : 200 < n
    · have h5 : decide (n ≤ 65536) = false := decide_eq_false (fun c => h1 ⟨h4, c⟩)
      clear h1
      go_enter Tryd.func5, Tryd.ntmps5
      have C := Aside0.mk (awake_any _ (Kd.C_below HT.out HS.out.below))
      go_wp2_with fail
      refine C.out.mono ?_
      rintro e w30 ⟨rfl, hw⟩
      replace HS := Aside0.mk (HS.out.step hw)
      clear hw C
      go_wp2
      go_ret
      exact ⟨rfl, HS.out.below⟩
    · clear h1
      go_enter Tryd.func5, Tryd.ntmps5
      have C := Aside0.mk (awake_any _ (Kd.C_below HT.out HS.out.below))
      go_wp2_with fail
      refine C.out.mono ?_
      rintro e w30 ⟨rfl, hw⟩
      replace HS := Aside0.mk (HS.out.step hw)
      clear hw C
      go_wp2
      go_ret
      exact ⟨rfl, HS.out.below⟩
theorem plays_no (n a : Int) (A : Option Addr) (c : Nat) (l : List Cal) (w : World) (hT : Tb w) (h : n < 1 ∨ 65536 < n) (h3 : l.length ≤ 100) :
    Calls Tryd.prog 5 #[.int .i64 n, .slice A l.length c, .int .i64 a] w fun e w' => e = .returned (.bool true) ∧ Below w.heap.size w w' := by
  have HS := Aside0.mk (Sep.nil w)
  have HT := Aside0.mk hT
  have C := Aside0.mk (gnew_no n w h)
  clear hT
  rcases h with h | h
  · have h4 : decide (200 < n) = false := decide_eq_false (by omega)
    go_enter Tryd.func5, Tryd.ntmps5
    go_wp2_with fail
    refine C.out.mono ?_
    rintro e w1 ⟨rfl, rfl⟩
    clear C
    have C := Aside0.mk (awake_any _ (Kd.C_below HT.out HS.out.below))
    go_wp2_with fail
    refine C.out.mono ?_
    rintro e w30 ⟨rfl, hw⟩
    replace HS := Aside0.mk (HS.out.step hw)
    clear hw C
    go_wp2
    go_ret
    exact ⟨rfl, HS.out.below⟩
  · have h4 : 200 < n := by omega
    have h5 : decide (n ≤ 65536) = false := decide_eq_false (by omega)
    have h6 : ¬ n < 1 := by omega
    go_enter Tryd.func5, Tryd.ntmps5
    go_wp2_with fail
    refine C.out.mono ?_
    rintro e w1 ⟨rfl, rfl⟩
    clear C
    have C := Aside0.mk (awake_any _ (Kd.C_below HT.out HS.out.below))
    go_wp2_with fail
    refine C.out.mono ?_
    rintro e w30 ⟨rfl, hw⟩
    replace HS := Aside0.mk (HS.out.step hw)
    clear hw C
    go_wp2
    go_ret
    exact ⟨rfl, HS.out.below⟩
set_option maxRecDepth 100000 in
set_option maxHeartbeats 2000000 in
theorem plays_yes (n : Nat) (a : Int) (A : Option Addr) (c : Nat) (l : List Cal) (w : World) (hT : Tb w) (hr : Kd.C kAct w A l.length l) (h1 : 1 ≤ n) (h2 : n ≤ 200) (h3 : l.length ≤ 100) :
    Calls Tryd.prog 5 #[.int .i64 n, .slice A l.length c, .int .i64 a] w fun e w' => e = .returned (.bool true) ∧ Below w.heap.size w w' := by
  have HT := Aside0.mk hT
  have HR := Aside0.mk hr
  have C := Aside0.mk (gnew_yes n w h1 (by omega))
  have hmk := make_slots n (by omega)
  have CL := Aside0.mk (cl_run n l)
  clear hT hr
  go_enter Tryd.func5, Tryd.ntmps5
  go_wp2_with fail
  refine C.out.mono ?_
  clear C
  rintro e w1 ⟨p, sb, ob, wb, rfl, hb4, hS, hB⟩
  have HS : Aside0 (Sep w w1 [Arr p sb ob wb n (runL n (l.take 0))]) := ⟨(Sep.nil w).new_arr (s := runL n (l.take 0)) hB ⟨_, hS⟩ hb4⟩
  clear hb4 hS hB
  obtain ⟨vs, hs⟩ := HS.out.arr 0 rfl
  have C := Aside0.mk (cap_any hs)
  clear hs
  go_wp2_with fail
  refine C.out.mono ?_
  clear C
  rintro e w2 ⟨rfl, rfl⟩
  go_wp2
  replace HS := Aside0.mk (ref_new (n := n) (by omega) HS.out)
  obtain ⟨lb, hlb⟩ : ∃ lb, w1.heap.size = lb := ⟨_, rfl⟩
  simp only [hlb] at HS ⊢
  generalize ((w1.alloc (.cells (slc (List.replicate n z60)).toArray 60)).alloc (.cells #[.slice (some ⟨lb, 0, none⟩) n n] 57)) = w2 at *
  replace HS : Aside0 (Sep w w2 [Arr p sb ob wb n (runL n (l.take 0)), RefO (lb + 1) lb n (runL n (l.take 0))]) := HS
  clear hlb hmk
  go_loopg [10] l.length (fun kq v10 w' => ∃ i : Nat, v10 = .int .i64 i ∧ i ≤ l.length ∧ Aside0 (l.length - i ≤ kq) ∧ Aside0 (Sep w w' [Arr p sb ob wb n (runL n (l.take i)), RefO (lb + 1) lb n (runL n (l.take i))]))
  case atStart => exact ⟨0, rfl, by omega, ⟨by omega⟩, HS⟩
  case round =>
    clear HS
    obtain ⟨i, rfl, hi, HQ, HS⟩ := hrel
    by_cases hlt : i < l.length
    · obtain ⟨ad, e, d0, d1, d2⟩ := at_act (Kd.C_below HR.out HS.out.below) i hlt
      cases e
      have HN := Aside0.mk (runL_snoc n l i hlt)
      generalize hq : l.getD i zAct = q at *
      have HQQ := Aside0.mk hq
      clear hq
      have LS := Aside0.mk (Kd.C_below HR.out HS.out.below)
      generalize runL n (l.take i) = g at *
      obtain ⟨gk, rfl⟩ : ∃ m, gk = m + 1 := ⟨gk - 1, by have := HQ.out; omega⟩
      go_wp2_with fail
      clear d0 d1 d2
      refine (does_any (HS.out.arr 0 rfl) q).mono ?_
      rintro e w3 ⟨rfl, hs, ho⟩
      replace HS := Aside0.mk (HS.out.turn_arr 0 rfl ho hs)
      clear hs ho
      obtain ⟨ad', e, d0, d1, d2⟩ := at_act (Kd.C_below HR.out HS.out.below) i hlt
      cases e
      rw [HQQ.out] at d0 d1 d2
      go_wp2_with fail
      clear d0 d1 d2
      have C := Aside0.mk (plays_any (show RefAt w3 (lb + 1) lb n g from HS.out.get 1 rfl) q)
      refine C.out.mono ?_
      clear C
      rintro e w4 ⟨rfl, hs, ho⟩
      replace HS := Aside0.mk (ref_turn HS.out 1 rfl ho hs)
      rw [← HN.out] at HS
      clear hs ho
      generalize actR n g q = rr at *
      generalize hg2 : runL n (l.take (i + 1)) = g2 at *
      have HG2 := Aside0.mk hg2
      clear hg2
      obtain ⟨vs, hs⟩ := HS.out.arr 0 rfl
      have C := Aside0.mk (slen_any hs)
      clear hs
      go_wp2_with fail
      refine C.out.mono ?_
      clear C
      rintro e w5 ⟨rfl, hw⟩
      replace HS := Aside0.mk (HS.out.step hw.below)
      clear hw
      have C := Aside0.mk (rplaces_any (show RefAt w5 (lb + 1) lb n g2 from HS.out.get 1 rfl))
      go_wp2_with fail
      refine C.out.mono ?_
      clear C
      rintro e w6 ⟨v, rfl, hs⟩
      obtain ⟨A2, c2, rfl⟩ := own_slice (hs.own 0 rfl)
      have e2 : (keys (ons g2.on g2.xs n)).length = cntF g2.on n := by unfold keys; rw [List.length_map, ons_length]
      have hcn := cntF_le g2.on n
      rw [e2]
      replace HS := Aside0.mk (HS.out.step hs.below)
      clear hs e2
      go_wp2
      go_roundg gk
      case measure => omega
      case rel => exact ⟨i + 1, by go_num, by omega, ⟨by have := HQ.out; omega⟩, ⟨by rw [HG2.out]; exact HS.out⟩⟩
    · obtain rfl : l.length = i := by omega
      rw [List.take_length] at HS
      generalize runL n l = g at *
      clear hi HQ hlt
      go_wp2_with fail
      refine (at_gap (HS.out.arr 0 rfl) a).mono ?_
      rintro e w3 ⟨rfl, rfl⟩
      have HC := Aside0.mk (show cntF g.on n ≤ n from cntF_le g.on n)
      by_cases ha : 0 ≤ a ∧ a < n
      · obtain ⟨k, rfl⟩ := Int.eq_ofNat_of_zero_le ha.1
        have hk : k < n := by omega
        have HF := show RefAt wr (lb + 1) lb n g from HS.out.get 1 rfl
        have HF2 := HF.below (below_alloc (Below.refl _ wr) (.cells #[.bool false, .int .i64 0] 60))
        have c0 := HF2.c0
        obtain ⟨s0, s1⟩ := HF2.cells hk
        have e1 : atB n g (k : Int) = g.on k := by unfold atB inR; rw [decide_eq_true (by omega), Int.toNat_natCast]; rfl
        have e2 : atV n g (k : Int) = g.xs.getD k 0 := by
          unfold atV
          rw [e1, Int.toNat_natCast]
          cases hf : g.on k with
          | true => rfl
          | false => rw [if_neg (by decide), CL.out k hf]
        rw [e1, e2]
        clear e1 e2 HF HF2 ha
        generalize g.xs.getD k 0 = x0 at *
        generalize g.on k = o0 at *
        replace HS := Aside0.mk (HS.out.step (below_alloc (Below.refl _ wr) (.cells #[.bool o0, .int .i64 x0] 60)))
        obtain ⟨vs, hs⟩ := HS.out.arr 0 rfl
        have C := Aside0.mk (items_any hs (Kd.C_below HT.out HS.out.below))
        clear hs
        go_wp2_with fail
        refine C.out.mono ?_
        clear C
        rintro e w4 ⟨A2, c2, rfl, hc2, hC, _, hb⟩
        have HC2 := Aside0.mk hC
        replace HS := Aside0.mk (HS.out.step hb)
        clear hb hC
        have C := Aside0.mk (ritems_any (show RefAt w4 (lb + 1) lb n g from HS.out.get 1 rfl))
        go_wp2_with fail
        refine C.out.mono ?_
        clear C
        rintro e w5 ⟨v, rfl, hs⟩
        obtain ⟨A3, c3, rfl⟩ := own_slice (hs.own 0 rfl)
        obtain ⟨e3, l3, hC3⟩ := hs.row 0 rfl
        have hl3 : (vals (ons g.on g.xs n)).length = cntF g.on n := by unfold vals; rw [List.length_map, ons_length]
        rw [hl3] at l3 hC3
        rw [hl3]
        have HC3 := Aside0.mk (And.intro l3 hC3)
        replace HC2 := Aside0.mk (Kd.C_below HC2.out hs.below)
        replace HS := Aside0.mk (HS.out.step hs.below)
        clear hs e3 hl3 l3 hC3
        go_wp2_with fail
        refine (ints_same _ _ A2 c2 A3 c3 _ HC2.out hc2 HC3.out.2 HC3.out.1 (by have := HC.out; omega)).mono ?_
        rintro e w6 ⟨rfl, hw⟩
        replace HS := Aside0.mk (HS.out.step hw.below)
        clear hw HC2 HC3 hc2
        obtain ⟨vs, hs⟩ := HS.out.arr 0 rfl
        have C := Aside0.mk (places_any hs (Kd.C_below HT.out HS.out.below))
        clear hs
        go_wp2_with fail
        refine C.out.mono ?_
        clear C
        rintro e w7 ⟨A2, c2, rfl, hc2, hC, _, hb⟩
        have HC2 := Aside0.mk hC
        replace HS := Aside0.mk (HS.out.step hb)
        clear hb hC
        have C := Aside0.mk (rplaces_any (show RefAt w7 (lb + 1) lb n g from HS.out.get 1 rfl))
        go_wp2_with fail
        refine C.out.mono ?_
        clear C
        rintro e w8 ⟨v, rfl, hs⟩
        obtain ⟨A3, c3, rfl⟩ := own_slice (hs.own 0 rfl)
        obtain ⟨e3, l3, hC3⟩ := hs.row 0 rfl
        have hl3 : (keys (ons g.on g.xs n)).length = cntF g.on n := by unfold keys; rw [List.length_map, ons_length]
        rw [hl3] at l3 hC3
        rw [hl3]
        have HC3 := Aside0.mk (And.intro l3 hC3)
        replace HC2 := Aside0.mk (Kd.C_below HC2.out hs.below)
        replace HS := Aside0.mk (HS.out.step hs.below)
        clear hs e3 hl3 l3 hC3
        go_wp2_with fail
        refine (ints_same _ _ A2 c2 A3 c3 _ HC2.out hc2 HC3.out.2 HC3.out.1 (by have := HC.out; omega)).mono ?_
        rintro e w9 ⟨rfl, hw⟩
        replace HS := Aside0.mk (HS.out.step hw.below)
        clear hw HC2 HC3 hc2
        have C := Aside0.mk (awake_any _ (Kd.C_below HT.out HS.out.below))
        go_wp2_with fail
        refine C.out.mono ?_
        rintro e w30 ⟨rfl, hw⟩
        replace HS := Aside0.mk (HS.out.step hw)
        clear hw C
        go_wp2
        go_ret
        exact ⟨rfl, HS.out.below⟩
      · have e1 : atB n g a = false := by unfold atB inR; rw [decide_eq_false ha]; rfl
        have e2 : atV n g a = 0 := by unfold atV; rw [e1]; rfl
        rw [e1, e2]
        clear e1 e2
        replace HS := Aside0.mk (HS.out.step (below_alloc (Below.refl _ wr) (.cells #[.bool false, .int .i64 0] 60)))
        by_cases h0 : 0 ≤ a
        · have h5 : decide (a < (n : Int)) = false := decide_eq_false (fun c => ha ⟨h0, c⟩)
          clear ha
          obtain ⟨vs, hs⟩ := HS.out.arr 0 rfl
          have C := Aside0.mk (items_any hs (Kd.C_below HT.out HS.out.below))
          clear hs
          go_wp2_with fail
          refine C.out.mono ?_
          clear C
          rintro e w4 ⟨A2, c2, rfl, hc2, hC, _, hb⟩
          have HC2 := Aside0.mk hC
          replace HS := Aside0.mk (HS.out.step hb)
          clear hb hC
          have C := Aside0.mk (ritems_any (show RefAt w4 (lb + 1) lb n g from HS.out.get 1 rfl))
          go_wp2_with fail
          refine C.out.mono ?_
          clear C
          rintro e w5 ⟨v, rfl, hs⟩
          obtain ⟨A3, c3, rfl⟩ := own_slice (hs.own 0 rfl)
          obtain ⟨e3, l3, hC3⟩ := hs.row 0 rfl
          have hl3 : (vals (ons g.on g.xs n)).length = cntF g.on n := by unfold vals; rw [List.length_map, ons_length]
          rw [hl3] at l3 hC3
          rw [hl3]
          have HC3 := Aside0.mk (And.intro l3 hC3)
          replace HC2 := Aside0.mk (Kd.C_below HC2.out hs.below)
          replace HS := Aside0.mk (HS.out.step hs.below)
          clear hs e3 hl3 l3 hC3
          go_wp2_with fail
          refine (ints_same _ _ A2 c2 A3 c3 _ HC2.out hc2 HC3.out.2 HC3.out.1 (by have := HC.out; omega)).mono ?_
          rintro e w6 ⟨rfl, hw⟩
          replace HS := Aside0.mk (HS.out.step hw.below)
          clear hw HC2 HC3 hc2
          obtain ⟨vs, hs⟩ := HS.out.arr 0 rfl
          have C := Aside0.mk (places_any hs (Kd.C_below HT.out HS.out.below))
          clear hs
          go_wp2_with fail
          refine C.out.mono ?_
          clear C
          rintro e w7 ⟨A2, c2, rfl, hc2, hC, _, hb⟩
          have HC2 := Aside0.mk hC
          replace HS := Aside0.mk (HS.out.step hb)
          clear hb hC
          have C := Aside0.mk (rplaces_any (show RefAt w7 (lb + 1) lb n g from HS.out.get 1 rfl))
          go_wp2_with fail
          refine C.out.mono ?_
          clear C
          rintro e w8 ⟨v, rfl, hs⟩
          obtain ⟨A3, c3, rfl⟩ := own_slice (hs.own 0 rfl)
          obtain ⟨e3, l3, hC3⟩ := hs.row 0 rfl
          have hl3 : (keys (ons g.on g.xs n)).length = cntF g.on n := by unfold keys; rw [List.length_map, ons_length]
          rw [hl3] at l3 hC3
          rw [hl3]
          have HC3 := Aside0.mk (And.intro l3 hC3)
          replace HC2 := Aside0.mk (Kd.C_below HC2.out hs.below)
          replace HS := Aside0.mk (HS.out.step hs.below)
          clear hs e3 hl3 l3 hC3
          go_wp2_with fail
          refine (ints_same _ _ A2 c2 A3 c3 _ HC2.out hc2 HC3.out.2 HC3.out.1 (by have := HC.out; omega)).mono ?_
          rintro e w9 ⟨rfl, hw⟩
          replace HS := Aside0.mk (HS.out.step hw.below)
          clear hw HC2 HC3 hc2
          have C := Aside0.mk (awake_any _ (Kd.C_below HT.out HS.out.below))
          go_wp2_with fail
          refine C.out.mono ?_
          rintro e w30 ⟨rfl, hw⟩
          replace HS := Aside0.mk (HS.out.step hw)
          clear hw C
          go_wp2
          go_ret
          exact ⟨rfl, HS.out.below⟩
        · have h5 : decide (0 ≤ a) = false := decide_eq_false h0
          clear ha
          obtain ⟨vs, hs⟩ := HS.out.arr 0 rfl
          have C := Aside0.mk (items_any hs (Kd.C_below HT.out HS.out.below))
          clear hs
          go_wp2_with fail
          refine C.out.mono ?_
          clear C
          rintro e w4 ⟨A2, c2, rfl, hc2, hC, _, hb⟩
          have HC2 := Aside0.mk hC
          replace HS := Aside0.mk (HS.out.step hb)
          clear hb hC
          have C := Aside0.mk (ritems_any (show RefAt w4 (lb + 1) lb n g from HS.out.get 1 rfl))
          go_wp2_with fail
          refine C.out.mono ?_
          clear C
          rintro e w5 ⟨v, rfl, hs⟩
          obtain ⟨A3, c3, rfl⟩ := own_slice (hs.own 0 rfl)
          obtain ⟨e3, l3, hC3⟩ := hs.row 0 rfl
          have hl3 : (vals (ons g.on g.xs n)).length = cntF g.on n := by unfold vals; rw [List.length_map, ons_length]
          rw [hl3] at l3 hC3
          rw [hl3]
          have HC3 := Aside0.mk (And.intro l3 hC3)
          replace HC2 := Aside0.mk (Kd.C_below HC2.out hs.below)
          replace HS := Aside0.mk (HS.out.step hs.below)
          clear hs e3 hl3 l3 hC3
          go_wp2_with fail
          refine (ints_same _ _ A2 c2 A3 c3 _ HC2.out hc2 HC3.out.2 HC3.out.1 (by have := HC.out; omega)).mono ?_
          rintro e w6 ⟨rfl, hw⟩
          replace HS := Aside0.mk (HS.out.step hw.below)
          clear hw HC2 HC3 hc2
          obtain ⟨vs, hs⟩ := HS.out.arr 0 rfl
          have C := Aside0.mk (places_any hs (Kd.C_below HT.out HS.out.below))
          clear hs
          go_wp2_with fail
          refine C.out.mono ?_
          clear C
          rintro e w7 ⟨A2, c2, rfl, hc2, hC, _, hb⟩
          have HC2 := Aside0.mk hC
          replace HS := Aside0.mk (HS.out.step hb)
          clear hb hC
          have C := Aside0.mk (rplaces_any (show RefAt w7 (lb + 1) lb n g from HS.out.get 1 rfl))
          go_wp2_with fail
          refine C.out.mono ?_
          clear C
          rintro e w8 ⟨v, rfl, hs⟩
          obtain ⟨A3, c3, rfl⟩ := own_slice (hs.own 0 rfl)
          obtain ⟨e3, l3, hC3⟩ := hs.row 0 rfl
          have hl3 : (keys (ons g.on g.xs n)).length = cntF g.on n := by unfold keys; rw [List.length_map, ons_length]
          rw [hl3] at l3 hC3
          rw [hl3]
          have HC3 := Aside0.mk (And.intro l3 hC3)
          replace HC2 := Aside0.mk (Kd.C_below HC2.out hs.below)
          replace HS := Aside0.mk (HS.out.step hs.below)
          clear hs e3 hl3 l3 hC3
          go_wp2_with fail
          refine (ints_same _ _ A2 c2 A3 c3 _ HC2.out hc2 HC3.out.2 HC3.out.1 (by have := HC.out; omega)).mono ?_
          rintro e w9 ⟨rfl, hw⟩
          replace HS := Aside0.mk (HS.out.step hw.below)
          clear hw HC2 HC3 hc2
          have C := Aside0.mk (awake_any _ (Kd.C_below HT.out HS.out.below))
          go_wp2_with fail
          refine C.out.mono ?_
          rintro e w30 ⟨rfl, hw⟩
          replace HS := Aside0.mk (HS.out.step hw)
          clear hw C
          go_wp2
          go_ret
          exact ⟨rfl, HS.out.below⟩
theorem law (n : Int) (wn : (Lit.int .i64 n).wf = true) (A : Option Addr) (c : Nat) (l : List Cal) {W0 : World} (g : Kd.C kAct W0 A l.length l) (a : Int) (wa : (Lit.int .i64 a).wf = true) (W : World) (hT : Tb W) (hW : W = W0 := by rfl) :
    Calls Tryd.prog 5 #[.int .i64 n, .slice A l.length c, .int .i64 a] W fun e w' => e = .returned (.bool true) ∧ Below W.heap.size W w' := by
  subst hW
  by_cases h : (200 < n ∧ n ≤ 65536) ∨ 100 < l.length
  · exact plays_asleep n a A c l W hT h
  · by_cases h2 : n < 1 ∨ 65536 < n
    · exact plays_no n a A c l W hT h2 (by omega)
    · obtain ⟨m, rfl⟩ := Int.eq_ofNat_of_zero_le (show 0 ≤ n by omega)
      exact plays_yes m a A c l W hT g (by omega) (by omega) (by omega)
end Go.Proofs.YtbjkncgpoengaaaDoor.R2
