/- The law PickKeeps walked: it returns true; whatever the counts and the segment. -/
import Derived.Test.YtlaegahdignphaaDoorN4
import Derived.Test.YtlaegahdignphaaDoorN9
import Derived.Deep.RegionHeld3
namespace Go.Proofs.YtlaegahdignphaaDoor.O2
open Go.RowKit Go.Shelf Go.Proofs.YtlaegahdignphaaDoorW.PrintWords Go.Proofs.YtlaegahdignphaaDoorW.PrintLast Go.Proofs.YtlaegahdignphaaDoorW.PrintMore Q1 Q2 L1 L3 S1 M1 M2 M3 M4 M5 M6 M7 M8 M9 N1 N2 N3 N7 N9 SL SG
set_option linter.unusedVariables false
set_option linter.unusedSimpArgs false

section
variable {w : World} {A : Option Addr} {c : Nat} {l : List Int}
set_option maxRecDepth 100000 in
theorem law_long (hT : Tb w) (s : Int) (h : 600 < l.length) : Calls Tryd.prog 14 #[.slice A l.length c, .int .i64 s] w fun e w' => e = .returned (.bool true) ∧ Below w.heap.size w w' := by
  have HT := Aside0.mk hT
  have HS := Aside0.mk (Sep.nil w)
  clear hT
  go_enter Tryd.func14, Tryd.ntmps14
  have C := Aside0.mk (N4.awake_any _ (Kd.C_below HT.out HS.out.below))
  go_wp2_with fail
  refine C.out.mono ?_
  clear C
  rintro e w9 ⟨rfl, hb⟩
  replace HS := Aside0.mk (HS.out.step hb)
  clear hb
  go_wp2
  (try rw [Exit.noGoto_ret])
  go_ret
  exact ⟨rfl, HS.out.below⟩
set_option maxRecDepth 100000 in
set_option maxHeartbeats 1000000 in
theorem law_bad (hT : Tb w) (s : Int) (h : l.length ≤ 600) {we : Int} (hw : we ≠ 0) (C2 : Calls Tryd.prog 35 #[.slice A l.length c, .int .i64 s] w fun e w' => e = .returned (.tuple #[.agg #[.int .i64 0, .int .i64 0, .int .i64 0, .int .i64 0], .int .i64 we]) ∧ Below w.heap.size w w') : Calls Tryd.prog 14 #[.slice A l.length c, .int .i64 s] w fun e w' => e = .returned (.bool true) ∧ Below w.heap.size w w' := by
  have C2 := Aside0.mk C2
  have q1 : (we != 0) = true := bne_iff_ne.2 hw
  have q5 : eqB (0, 0, 0, 0) (0, 0, 0, 0) = true := decide_eq_true rfl
  have HT := Aside0.mk hT
  have HS := Aside0.mk (Sep.nil w)
  have heq := fun w => eqS w
  have hgd := guardS
  clear hT hw
  go_enter Tryd.func14, Tryd.ntmps14
  go_wp2_with fail
  refine C2.out.mono ?_
  clear C2
  rintro e w2 ⟨rfl, hb⟩
  replace HS := Aside0.mk ((HS.out.step hb).new_blk #[.int .i64 0, .int .i64 0, .int .i64 0, .int .i64 0] 41)
  clear hb
  have c0 : (_ : Option Value) = some (.int .i64 0) := (blk_cell (HS.out.blk 0 rfl) 0).trans rfl
  have c1 : (_ : Option Value) = some (.int .i64 0) := (blk_cell (HS.out.blk 0 rfl) 1).trans rfl
  have c2 : (_ : Option Value) = some (.int .i64 0) := (blk_cell (HS.out.blk 0 rfl) 2).trans rfl
  have c3 : (_ : Option Value) = some (.int .i64 0) := (blk_cell (HS.out.blk 0 rfl) 3).trans rfl
  have C := Aside0.mk (N4.awake_any _ (Kd.C_below HT.out HS.out.below))
  go_wp2_with fail
  refine C.out.mono ?_
  clear C
  rintro e w9 ⟨rfl, hb⟩
  replace HS := Aside0.mk (HS.out.step hb)
  clear hb
  go_wp2
  (try rw [Exit.noGoto_ret])
  go_ret
  exact ⟨rfl, HS.out.below⟩
/-- All segments ahead of i have some, but for one. -/
def someB (l : List Int) (s i : Nat) : Bool := decide (∀ j, j < i → 0 < l.getD j 0 ∨ j = s)
theorem some_step (l : List Int) (s i : Nat) : someB l s (i + 1) = (someB l s i && (decide (0 < l.getD i 0) || decide (i = s))) := by
  unfold someB
  rw [Bool.eq_iff_iff]
  simp only [decide_eq_true_eq, Bool.and_eq_true, Bool.or_eq_true]
  constructor
  · intro h
    exact ⟨fun j hj => h j (by omega), h i (by omega)⟩
  · rintro ⟨h1, h2⟩ j hj
    by_cases e : j = i
    · rw [e]; exact h2
    · exact h1 j (by omega)
theorem some_all {l : List Int} {s : Nat} (h : someB l s l.length = true) : ∀ i, i < l.length → i ≠ s → 1 ≤ l.getD i 0 := fun i hi hs => by
  rcases of_decide_eq_true h i hi with h | h
  · omega
  · exact absurd h hs
set_option maxRecDepth 100000 in
set_option maxHeartbeats 16000000 in
theorem law_good (hr : Kd.C (Kd.int .i64) w A l.length l) (hlc : l.length ≤ c) (hT : Tb w) (s : Nat) (hz : wrg l s = 0) (h5 : (pickN l s).2.2.2.2 = 0) : Calls Tryd.prog 14 #[.slice A l.length c, .int .i64 s] w fun e w' => e = .returned (.bool true) ∧ Below w.heap.size w w' := by
  obtain ⟨h0, hc, hg, hcp, t, ht, hs⟩ := wrg_zero hz
  obtain rfl : s = t := by omega
  have hl := hcp.le
  have C2 := Aside0.mk (pick_good (c := c) hr hlc hT hz)
  unfold pickV at C2
  have CA := Aside0.mk (fun (W : World) (hb : Below w.heap.size w W) => after_next (w := W) (c := c) (Kd.C_below hr hb) hlc hz h5)
  generalize hpn : pickN l s = pn at *
  obtain ⟨p1, p2, p3, p4, p5⟩ := pn
  dsimp only at C2 CA h5
  subst h5
  have HG := Aside0.mk hg
  have HR := Aside0.mk hr
  have HLC := Aside0.mk hlc
  have HT := Aside0.mk hT
  have HS := Aside0.mk (Sep.nil w)
  have hl600 : ¬ (600 : Int) < (l.length : Int) := by omega
  have d600 : decide ((600 : Int) < (l.length : Int)) = false := decide_eq_false hl600
  have d601 : decide (600 < l.length) = false := decide_eq_false (by omega)
  clear hpn hz h0 hc hg hcp hr hlc hT ht
  go_enter Tryd.func14, Tryd.ntmps14
  go_wp2_with fail
  refine C2.out.mono ?_
  clear C2
  rintro e w2 ⟨rfl, hb⟩
  replace HS := Aside0.mk ((HS.out.step hb).new_blk #[.int .i64 p1, .int .i64 p2, .int .i64 p3, .int .i64 p4] 41)
  clear hb
  have c0 : (_ : Option Value) = some (.int .i64 p1) := (blk_cell (HS.out.blk 0 rfl) 0).trans rfl
  have c1 : (_ : Option Value) = some (.int .i64 p2) := (blk_cell (HS.out.blk 0 rfl) 1).trans rfl
  have c2 : (_ : Option Value) = some (.int .i64 p3) := (blk_cell (HS.out.blk 0 rfl) 2).trans rfl
  have c3 : (_ : Option Value) = some (.int .i64 p4) := (blk_cell (HS.out.blk 0 rfl) 3).trans rfl
  obtain ⟨m, f, g, hN, hC⟩ := CA.out _ HS.out.below
  have HN := Aside0.mk hN
  have C := Aside0.mk hC
  clear CA hC
  obtain ⟨rfl, rfl, rfl⟩ : p2 = f ∧ p3 = g ∧ p4 = 8 * (m.length : Int) := ⟨hN.e2, hN.e3, hN.e4⟩
  have hm := hN.hl
  have hg1 := hN.h1
  have hin := hN.hin
  clear hN
  go_wp2_with fail
  refine C.out.mono ?_
  clear C c0 c1 c2 c3
  rintro e w3 ⟨A2, c2', rfl, hs3⟩
  replace HS := Aside0.mk (HS.out.append hs3)
  clear hs3
  have c0 : (_ : Option Value) = some (.int .i64 p1) := (blk_cell (HS.out.blk 0 rfl) 0).trans rfl
  have c1 : (_ : Option Value) = some (.int .i64 f) := (blk_cell (HS.out.blk 0 rfl) 1).trans rfl
  have c2 : (_ : Option Value) = some (.int .i64 g) := (blk_cell (HS.out.blk 0 rfl) 2).trans rfl
  have c3 : (_ : Option Value) = some (.int .i64 (8 * (m.length : Int))) := (blk_cell (HS.out.blk 0 rfl) 3).trans rfl
  have HRW := Aside0.mk (HS.out.row 1 rfl)
  have CM := Aside0.mk (total_any HRW.out.2.2 HRW.out.2.1 HN.out.good (by omega))
  rw [HN.out.sum] at CM
  have q1 : ¬ (f : Int) < 0 := by omega
  have q2 : ¬ (g : Int) < 1 := by omega
  have q3 : ¬ (m.length : Int) < (f : Int) + (g : Int) := by omega
  have d1 : decide ((f : Int) < 0) = false := decide_eq_false q1
  have d2 : decide ((g : Int) < 1) = false := decide_eq_false q2
  have d3 : decide ((m.length : Int) < (f : Int) + (g : Int)) = false := decide_eq_false q3
  have q4 : (8 * (m.length : Int) != 8 * (m.length : Int)) = false := by simp
  have q5 : (l.sum != l.sum) = false := by simp
  go_wp2_with fail
  refine CM.out.mono ?_
  clear CM c0 c1 c2 c3 HRW
  rintro e w4 ⟨rfl, hd⟩
  replace HS := Aside0.mk (HS.out.step hd.below)
  clear hd
  have CM := Aside0.mk (total_any (Kd.C_below HR.out HS.out.below) HLC.out HG.out (by omega))
  go_wp2_with fail
  refine CM.out.mono ?_
  clear CM
  rintro e w5 ⟨rfl, hd⟩
  replace HS := Aside0.mk (HS.out.step hd.below)
  clear hd
  have c0 : (_ : Option Value) = some (.int .i64 p1) := (blk_cell (HS.out.blk 0 rfl) 0).trans rfl
  have c1 : (_ : Option Value) = some (.int .i64 f) := (blk_cell (HS.out.blk 0 rfl) 1).trans rfl
  have c2 : (_ : Option Value) = some (.int .i64 g) := (blk_cell (HS.out.blk 0 rfl) 2).trans rfl
  have c3 : (_ : Option Value) = some (.int .i64 (8 * (m.length : Int))) := (blk_cell (HS.out.blk 0 rfl) 3).trans rfl
  have HRW := Aside0.mk (HS.out.row 1 rfl)
  obtain ⟨A9, hmid, hR9, hc9⟩ := mid_nat (A := A2) hin HRW.out.2.1
  obtain ⟨q, hq8, hqq⟩ := HN.out.even
  have hlen9 : ((m.drop f).take g).length = g := by rw [List.length_take, List.length_drop]; omega
  have CE := even_true (q := (q : Int)) (c := c2' - f) (l := (m.drop f).take g) (by rw [hlen9]; exact hR9 _ HRW.out.2.2) (by rw [hlen9]; omega) (by omega) (by omega) (fun j hj => by
    rw [hlen9] at hj
    have e : ((m.drop f).take g).getD j 0 = m.getD (f + j) 0 := by simp [List.getD_eq_getElem?_getD, List.getElem?_take, hj]
    rw [e]
    exact hqq (f + j) (by omega) (by omega))
  rw [hlen9] at CE
  have CE := Aside0.mk CE
  have i1 : (f : Int) ≤ (f : Int) + (g : Int) := by omega
  clear hR9 hc9 hqq hlen9 hq8 HRW
  go_wp2_with fail
  refine CE.out.mono ?_
  clear CE hmid i1
  rintro e w6 ⟨rfl, rfl⟩
  clear c0 c1 c2 c3 q1 q2 q3 q4 q5 d1 d2 d3
  go_wp2
  go_loopg [9, 10] (l.length + 1) (fun kq v9 v10 W => ∃ i : Nat, v9 = .bool (someB l s i) ∧ v10 = .int .i64 i ∧ i ≤ l.length ∧ Aside0 (l.length - i ≤ kq) ∧ Aside0 (Sep w W [Blk w2.heap.size #[.int .i64 p1, .int .i64 f, .int .i64 g, .int .i64 (8 * (m.length : Int))] 41, S1.Own (.slice A2 m.length c2') m]))
  case atStart => exact ⟨0, by rw [show someB l s 0 = true from decide_eq_true fun j hj => by omega], rfl, by omega, ⟨by omega⟩, HS⟩
  case round =>
    clear HS
    obtain ⟨i, rfl, rfl, hi, HQ, HS⟩ := hrel
    by_cases hlt : i < l.length
    · obtain ⟨ad, e, hx⟩ := Kd.at_int (Kd.C_below HR.out HS.out.below) (i : Int) (by omega) (by omega)
      cases e
      rw [Int.toNat_natCast, show rd l (i : Int) = l.getD i 0 from rfl] at hx
      have HU := Aside0.mk (some_step l s i)
      clear HU
      obtain ⟨b0, hb0⟩ : ∃ b, someB l s i = b := ⟨_, rfl⟩
      obtain ⟨x, hx9⟩ : ∃ x, l.getD i 0 = x := ⟨_, rfl⟩
      rw [hx9] at hx
      rw [hb0]
      have HBb := Aside0.mk hb0.symm
      have HBx := Aside0.mk hx9.symm
      clear hb0 hx9
      cases b0
      · have HB1 := Aside0.mk (show someB l s (i + 1) = false by rw [some_step, ← HBb.out]; rfl)
        go_wp2
        go_roundg (l.length - (i + 1))
        case measure => have := HQ.out; omega
        case rel => exact ⟨i + 1, by rw [HB1.out], by go_num, by omega, ⟨Nat.le_refl _⟩, HS⟩
      · by_cases hx0 : 0 < x
        · have HB1 := Aside0.mk (show someB l s (i + 1) = true by rw [some_step, ← HBb.out, ← HBx.out, decide_eq_true hx0]; rfl)
          go_wp2
          go_roundg (l.length - (i + 1))
          case measure => have := HQ.out; omega
          case rel => exact ⟨i + 1, by rw [HB1.out], by go_num, by omega, ⟨Nat.le_refl _⟩, HS⟩
        · by_cases his : i = s
          · have HB1 := Aside0.mk (show someB l s (i + 1) = true by rw [some_step, ← HBb.out, decide_eq_true his]; simp)
            have q : ((i : Int) == (s : Int)) = true := beq_iff_eq.2 (by omega)
            clear his
            go_wp2
            go_roundg (l.length - (i + 1))
            case measure => have := HQ.out; omega
            case rel => exact ⟨i + 1, by rw [HB1.out], by go_num, by omega, ⟨Nat.le_refl _⟩, HS⟩
          · have HB1 := Aside0.mk (show someB l s (i + 1) = false by rw [some_step, ← HBb.out, ← HBx.out, decide_eq_false hx0, decide_eq_false his]; rfl)
            have q : ((i : Int) == (s : Int)) = false := beq_eq_false_iff_ne.2 (by omega)
            clear his
            go_wp2
            go_roundg (l.length - (i + 1))
            case measure => have := HQ.out; omega
            case rel => exact ⟨i + 1, by rw [HB1.out], by go_num, by omega, ⟨Nat.le_refl _⟩, HS⟩
    · obtain rfl : i = l.length := by omega
      clear hlt hi
      have HSM : Aside0 (someB l s l.length = true → ∀ i, i < l.length → i ≠ s → 1 ≤ l.getD i 0) := ⟨some_all⟩
      generalize someB l s l.length = sm at *
      have c0 : (_ : Option Value) = some (.int .i64 p1) := (blk_cell (HS.out.blk 0 rfl) 0).trans rfl
      have c1 : (_ : Option Value) = some (.int .i64 f) := (blk_cell (HS.out.blk 0 rfl) 1).trans rfl
      have c2 : (_ : Option Value) = some (.int .i64 g) := (blk_cell (HS.out.blk 0 rfl) 2).trans rfl
      have c3 : (_ : Option Value) = some (.int .i64 (8 * (m.length : Int))) := (blk_cell (HS.out.blk 0 rfl) 3).trans rfl
      go_wp2
      clear c0 c1 c2 c3
      go_loopg [11] (g + 1) (fun kq v11 W => ∃ j : Nat, v11 = .int .i64 j ∧ f ≤ j ∧ j ≤ f + g ∧ Aside0 (f + g - j ≤ kq) ∧ Aside0 (Sep w W [Blk w2.heap.size #[.int .i64 p1, .int .i64 f, .int .i64 g, .int .i64 (8 * (m.length : Int))] 41, S1.Own (.slice A2 m.length c2') m]))
      case atStart => exact ⟨f, rfl, by omega, by omega, ⟨by omega⟩, HS⟩
      case round =>
        clear HS
        obtain ⟨j, rfl, hj, hj2, HQ2, HS⟩ := hrel
        have c0 : (_ : Option Value) = some (.int .i64 p1) := (blk_cell (HS.out.blk 0 rfl) 0).trans rfl
        have c1 : (_ : Option Value) = some (.int .i64 f) := (blk_cell (HS.out.blk 0 rfl) 1).trans rfl
        have c2 : (_ : Option Value) = some (.int .i64 g) := (blk_cell (HS.out.blk 0 rfl) 2).trans rfl
        have c3 : (_ : Option Value) = some (.int .i64 (8 * (m.length : Int))) := (blk_cell (HS.out.blk 0 rfl) 3).trans rfl
        have HRW := Aside0.mk (HS.out.row 1 rfl)
        by_cases hlt : j < f + g
        · obtain ⟨ad, e, hx⟩ := Kd.at_int HRW.out.2.2 (j : Int) (by omega) (by omega)
          cases e
          rw [Int.toNat_natCast, show rd m (j : Int) = m.getD j 0 from rfl] at hx
          have h7 := HN.out.hi j hj hlt
          have h00 := (HN.out.good j (by omega)).1
          have HLO := Aside0.mk (fun h4 hh => HN.out.lo h4 hh j hj hlt)
          generalize m.getD j 0 = x at *
          have t7 : ¬ (7 : Int) < x := by omega
          have t0 : ¬ x < 0 := by omega
          have hjl : (j : Int) < (m.length : Int) := by omega
          clear HRW
          by_cases hx1 : x < 1
          · by_cases h4 : 4 < m.length
            · have hs0 : sm = false := by
                cases sm
                · rfl
                · have := HLO.out h4 (HSM.out rfl); omega
              subst hs0
              go_wp2
              go_roundg (f + g - (j + 1))
              case measure => have := HQ2.out; omega
              case rel => exact ⟨j + 1, by go_num, by omega, by omega, ⟨Nat.le_refl _⟩, HS⟩
            · have q32 : ¬ (32 : Int) < 8 * (m.length : Int) := by omega
              go_wp2
              go_roundg (f + g - (j + 1))
              case measure => have := HQ2.out; omega
              case rel => exact ⟨j + 1, by go_num, by omega, by omega, ⟨Nat.le_refl _⟩, HS⟩
          · go_wp2
            go_roundg (f + g - (j + 1))
            case measure => have := HQ2.out; omega
            case rel => exact ⟨j + 1, by go_num, by omega, by omega, ⟨Nat.le_refl _⟩, HS⟩
        · obtain rfl : j = f + g := by omega
          clear hlt hj hj2
          rcases HN.out.kind with ⟨rfl, k2, k3, k4, k5, k6⟩ | ⟨rfl, rfl, k3, k4⟩ | ⟨rfl, rfl, k3, k4⟩
          · have g1 : ((m.length : Int) == (l.length : Int)) = true := beq_iff_eq.2 (by omega)
            have g2 : (f : Int) ≤ (s : Int) := by omega
            have g3 : (s : Int) < (f : Int) + (g : Int) := by omega
            have g4 : decide ((f : Int) ≤ (s : Int)) = true := decide_eq_true g2
            have g5 : decide ((s : Int) < (f : Int) + (g : Int)) = true := decide_eq_true g3
            have hwr : IntKind.i64.wrap ((f : Int) + (g : Int)) = (f : Int) + (g : Int) := by rw [IntKind.wrap_i64]; omega
            obtain ⟨ht1, hR1⟩ := take_nat (A := A2) (f := f) (l := m) (by omega) HRW.out.2.1
            obtain ⟨ht2, hR2⟩ := take_nat (A := A) (f := f) (l := l) (by omega) HLC.out
            obtain ⟨A3, hd1, hR3⟩ := cut_nat (A := A2) (l := m) (f := f) (s := g) hin HRW.out.2.1
            obtain ⟨A4, hd2, hR4⟩ := cut_nat (A := A) (l := l) (f := f) (s := g) (by omega) HLC.out
            have hmc := HRW.out.2.1
            have hlc := HLC.out
            have CI1 := Aside0.mk (fun (W : World) (hb : Below wr.heap.size wr W) => ints_any (c0 := c2') (c1 := c) (hR1 _ (Kd.C_below HRW.out.2.2 hb)) (by omega) (hR2 _ (Kd.C_below (Kd.C_below HR.out HS.out.below) hb)) (by omega) (by rw [List.length_take]; omega))
            have CI2 := Aside0.mk (fun (W : World) (hb : Below wr.heap.size wr W) => ints_any (c0 := c2' - (f + g)) (c1 := c - (f + g)) (hR3 _ (Kd.C_below HRW.out.2.2 hb)) (by omega) (hR4 _ (Kd.C_below (Kd.C_below HR.out HS.out.below) hb)) (by omega) (by rw [List.length_drop]; omega))
            have CAW := Aside0.mk (fun (W : World) (hb : Below wr.heap.size wr W) => N4.awake_any W (Kd.C_below (Kd.C_below HT.out HS.out.below) hb))
            rw [decide_eq_true k5] at CI1
            rw [decide_eq_true k6] at CI2
            clear hR1 hR2 hR3 hR4 k2 k3 k4 k5 k6 HRW
            go_wp2
            go_region_held3 (fun W => Below wr.heap.size wr W ∧ W.cell? ⟨w2.heap.size, 1, none⟩ = some (.int .i64 f) ∧ W.cell? ⟨w2.heap.size, 2, none⟩ = some (.int .i64 g)) (first | exact ⟨HB3.out, z5, z6⟩ | exact ⟨HB2.out, z3, z4⟩ | exact ⟨HB1.out, z1, z2⟩ | exact ⟨below_drew (Below.refl _ _), c1, c2⟩) (first
              | (go_at_call 33; refine (CAW.out _ HB2.out).mono ?_; rintro e w9 ⟨rfl, hb⟩; have HB3 := Aside0.mk (below_step HB2.out hb); have z5 := pw_cell_below HB3.out c1; have z6 := pw_cell_below HB3.out c2; clear hb)
              | (go_at_call 42; refine (CI2.out _ HB1.out).mono ?_; rintro e w8 ⟨rfl, hd⟩; have HB2 := Aside0.mk (below_step HB1.out hd.below); have z3 := pw_cell_below HB2.out c1; have z4 := pw_cell_below HB2.out c2; clear hd)
              | (go_at_call 42; refine (CI1.out _ (below_drew (Below.refl _ _))).mono ?_; rintro e w7 ⟨rfl, hd⟩; have HB1 := Aside0.mk (below_step (below_drew (Below.refl wr.heap.size wr)) hd.below); have z1 := pw_cell_below HB1.out c1; have z2 := pw_cell_below HB1.out c2; clear hd))
            all_goals
              go_wp2
              (try rw [Exit.noGoto_ret])
              go_ret
              exact ⟨rfl, (HS.out.step HB3.out).below⟩
          · have g1 : ((g : Int) == (m.length : Int)) = true := beq_iff_eq.2 (by omega)
            have g2 : ((m.length : Int) == 2 * (l.length : Int)) = true := beq_iff_eq.2 (by omega)
            clear k3 k4 HRW
            have C := Aside0.mk (N4.awake_any _ (Kd.C_below HT.out HS.out.below))
            go_wp2_with fail
            refine C.out.mono ?_
            clear C
            rintro e w9 ⟨rfl, hb⟩
            replace HS := Aside0.mk (HS.out.step hb)
            clear hb
            go_wp2
            (try rw [Exit.noGoto_ret])
            go_ret
            exact ⟨rfl, HS.out.below⟩
          · have g1 : ((g : Int) == (m.length : Int)) = true := beq_iff_eq.2 (by omega)
            have g2 : (2 * (m.length : Int) == (l.length : Int)) = true := beq_iff_eq.2 (by omega)
            clear k3 k4 HRW
            have C := Aside0.mk (N4.awake_any _ (Kd.C_below HT.out HS.out.below))
            go_wp2_with fail
            refine C.out.mono ?_
            clear C
            rintro e w9 ⟨rfl, hb⟩
            replace HS := Aside0.mk (HS.out.step hb)
            clear hb
            go_wp2
            (try rw [Exit.noGoto_ret])
            go_ret
            exact ⟨rfl, HS.out.below⟩
end
theorem law (A : Option Addr) (c : Nat) (l : List Int) {W0 : World} (g : Kd.C (Kd.int .i64) W0 A l.length l) (e : l.length ≤ c) (y : l.length * 8 ≤ 140737488351232) (wl : ∀ x ∈ l, (Lit.int .i64 x).wf = true) (s : Int) (ws : (Lit.int .i64 s).wf = true) (W : World) (hT : Tb W) (hW : W = W0 := by rfl) :
    Calls Tryd.prog 14 #[.slice A l.length c, .int .i64 s] W fun e w' => e = .returned (.bool true) ∧ Below W.heap.size W w' := by
  subst hW
  by_cases h1 : 600 < l.length
  · exact law_long hT s h1
  · by_cases h2 : wrg l s = 0
    · obtain ⟨_, _, _, _, t, rfl, _⟩ := wrg_zero h2
      by_cases h3 : (pickN l t).2.2.2.2 = 0
      · exact law_good g e hT t h2 h3
      · have C := pick_good (c := c) g e hT h2
        have hv : pickV l t = .tuple #[.agg #[.int .i64 0, .int .i64 0, .int .i64 0, .int .i64 0], .int .i64 16] := by
          unfold pickV
          have : pickN l t = (0, 0, 0, 0, 16) := by
            revert h3
            unfold pickN
            split
            · intro h3; exact absurd rfl h3
            · split
              · intro h3; exact absurd rfl h3
              · split
                · intro _; rfl
                · intro h3; exact absurd rfl h3
          rw [this]
        rw [hv] at C
        exact law_bad hT t (by omega) (by decide) C
    · exact law_bad hT s (by omega) h2 (pick_bad g s h2)
end Go.Proofs.YtlaegahdignphaaDoor.O2
