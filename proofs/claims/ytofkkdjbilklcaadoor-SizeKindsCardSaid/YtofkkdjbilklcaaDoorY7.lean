/- The chapter's examples; what a made array tells. -/
import Derived.Test.YtofkkdjbilklcaaDoorY6
namespace Go.Proofs.YtofkkdjbilklcaaDoor.Y7
open Go.RowKit Go.Shelf Go.Proofs.YtofkkdjbilklcaaDoorW.PrintWords Go.Proofs.YtofkkdjbilklcaaDoorW.PrintLast Go.Proofs.YtofkkdjbilklcaaDoorW.PrintMore G1 G0 Q1 G2 G3 G4 G5 G6 G7 G8 G9 G10 S1 Y1 Y3 Y2 Y4 Y5 Y6
open L1 (capB forN)
set_option linter.unusedVariables false
set_option linter.unusedSimpArgs false
theorem ints_loop {l m : List Int} (hl : l.length = m.length) (hn : l.length ≤ 1000000) (r : Bool) (hr : r = true ↔ l = m) : ∀ d i : Nat, i + d = l.length → (∀ j, j < i → l.getD j 0 = m.getD j 0) → Ev (fun k => punnetlaw08_ints.l0 k l m (i : Int)) r
  | 0, i, e, hj => by
    have hg : l = m := by
      apply List.ext_getElem hl
      intro j h1 h2
      have := hj j (by omega)
      simpa [List.getD_eq_getElem?_getD, h1, h2] using this
    refine Ev.step (f := fun _ => some true) (fun k => ?_) (hr.2 hg ▸ Ev.now _)
    show (if (i : Int) < (l.length : Int) then _ else _) = _
    rw [if_neg (by omega)]
  | d + 1, i, e, hj => by
    by_cases hb : l.getD i 0 = m.getD i 0
    · have ih := ints_loop hl hn r hr d (i + 1) (by omega) (fun j h => by
        by_cases e : j = i
        · rw [e]; exact hb
        · exact hj j (by omega))
      refine Ev.step (fun k => ?_) ih
      show (if (i : Int) < (l.length : Int) then _ else _) = _
      rw [if_pos (by omega), if_pos (by omega), if_pos (by omega), show rd l (i : Int) = l.getD i 0 from rfl, show rd m (i : Int) = m.getD i 0 from rfl, if_pos hb, w64 (x := (i : Int) + 1) (by omega) (by omega)]
      rfl
    · have h0 : r = false := by
        cases r with
        | false => rfl
        | true => exact absurd (by rw [hr.1 rfl]) hb
      refine Ev.step (f := fun _ => some false) (fun k => ?_) (h0 ▸ Ev.now _)
      show (if (i : Int) < (l.length : Int) then _ else _) = _
      rw [if_pos (by omega), if_pos (by omega), if_pos (by omega), show rd l (i : Int) = l.getD i 0 from rfl, show rd m (i : Int) = m.getD i 0 from rfl, if_neg hb]
theorem ints_ev (l m : List Int) (hn : l.length ≤ 1000000) : Ev (fun k => punnetlaw08_ints.f k l m) (decide (l = m)) := by
  by_cases hl : l.length = m.length
  · refine Ev.congr (f := fun k => punnetlaw08_ints.l0 k l m ((0 : Nat) : Int)) (fun k => ?_) (ints_loop hl hn _ (by simp) l.length 0 (by omega) (fun j hj => by omega))
    unfold punnetlaw08_ints.f
    rw [if_pos (by omega)]
    rfl
  · rw [decide_eq_false (fun e => hl (by rw [e]))]
    refine Ev.congr (f := fun k => some false) (fun k => ?_) (Ev.now _)
    unfold punnetlaw08_ints.f
    rw [if_neg (by omega)]
theorem ints_any {w : World} {A0 A1 : Option Addr} {c0 c1 : Nat} {l m : List Int} {n1 n2 : Nat} (hr0 : Kd.C (Kd.int .i64) w A0 n1 l) (h0 : n1 ≤ c0) (hr1 : Kd.C (Kd.int .i64) w A1 n2 m) (h1 : n2 ≤ c1) (hn : l.length ≤ 1000000) :
    Calls Tryd.prog 47 #[.slice A0 n1 c0, .slice A1 n2 c1] w fun e w' => e = .returned (.bool (decide (l = m))) ∧ Drawn0 w w' := by
  obtain rfl := hr0.1
  obtain rfl := hr1.1
  obtain ⟨k, hk⟩ := ints_ev l m hn
  exact punnetlaw08_ints.calls k A0 c0 l A1 c1 m _ w hr0 h0 hr1 h1 (hk k (Nat.le_refl _))

/-- An array of elements, spread: what it tells. -/
theorem spread_places {w : World} {p sb ob wb S k : Nat} {l : List Int} (hI : Is w p sb ob wb S (layG S (plK l.length k 0 k) l l.length)) (hT : Tb w) (h1 : 1 ≤ k) (hk : S = 8 * k) (hn : l.length ≤ S) :
    Calls Tryd.prog 29 #[.pointer (some ⟨p, 0, none⟩)] w fun e w' => ∃ A c, e = .returned (.slice A l.length c) ∧ l.length ≤ c ∧ Kd.C (Kd.int .i64) w' A l.length (plK l.length k 0 k) ∧ Below w.heap.size w w' := by
  have hR : Rise S (plK l.length k 0 k) := by rw [hk]; exact pl_rise h1 (by omega)
  have hlen := pl_len (n := l.length) 0 h1
  obtain ⟨vs, hs⟩ := hI
  refine (places_any hs hT).mono ?_
  rintro e w' ⟨A, c, rfl, g1, g2, _, g4⟩
  have e1 := lay_keys (l := l) hR
  have e2 := lay_cnt (l := l) hR
  rw [hlen] at e1 e2
  rw [e1] at g2
  rw [e2] at g1 g2
  exact ⟨A, c, by rw [e2], g1, g2, g4⟩
theorem spread_items {w : World} {p sb ob wb S k : Nat} {l : List Int} (hI : Is w p sb ob wb S (layG S (plK l.length k 0 k) l l.length)) (hT : Tb w) (h1 : 1 ≤ k) (hk : S = 8 * k) (hn : l.length ≤ S) :
    Calls Tryd.prog 30 #[.pointer (some ⟨p, 0, none⟩)] w fun e w' => ∃ A c, e = .returned (.slice A l.length c) ∧ l.length ≤ c ∧ Kd.C (Kd.int .i64) w' A l.length l ∧ Below w.heap.size w w' := by
  have hR : Rise S (plK l.length k 0 k) := by rw [hk]; exact pl_rise h1 (by omega)
  have hlen := pl_len (n := l.length) 0 h1
  obtain ⟨vs, hs⟩ := hI
  refine (items_any hs hT).mono ?_
  rintro e w' ⟨A, c, rfl, g1, g2, _, g4⟩
  have e1 := lay_vals (l := l) hR hlen
  have e2 := lay_cnt (l := l) hR
  rw [hlen] at e1 e2
  rw [e1] at g2
  rw [e2] at g1 g2
  exact ⟨A, c, by rw [e2], g1, g2, g4⟩
theorem pl54 : plK 5 4 0 4 = [0, 8, 16, 24, 28] := by decide +kernel
theorem pl58 : plK 5 8 0 8 = [8, 24, 32, 48, 56] := by decide +kernel
theorem fit16 : fitsB 16 64 = true := by decide +kernel
theorem fit15 : fitsB 15 64 = false := by decide +kernel
/-- An array of elements resized. -/
theorem spread_resize {w : World} {p sb ob wb S k S2 k2 : Nat} {l : List Int} (hI : Is w p sb ob wb S (layG S (plK l.length k 0 k) l l.length)) (hT : Tb w) (h1 : 1 ≤ k) (hk : S = 8 * k) (hn : l.length ≤ S) (hc : capB (S2 : Int) = true) (hk2 : S2 = 8 * k2) (hn2 : l.length ≤ S2) :
    Calls Tryd.prog 45 #[.pointer (some ⟨p, 0, none⟩), .int .i64 S2, .nilFunc] w fun e w' => ∃ p' sb' ob' wb', e = .returned (.tuple #[.pointer (some ⟨p', 0, none⟩), .int .i64 0]) ∧ Sep w w' [S1.Arr p' sb' ob' wb' S2 (layG S2 (plK l.length k2 0 k2) l l.length)] := by
  have hR : Rise S (plK l.length k 0 k) := by rw [hk]; exact pl_rise h1 (by omega)
  have hlen := pl_len (n := l.length) 0 h1
  have e1 := lay_vals (l := l) hR hlen
  have e2 := lay_cnt (l := l) hR
  rw [hlen] at e1 e2
  have C := resize_yes hI hT hc hk2 (by rw [e2]; exact hn2)
  rw [e1, e2] at C
  exact C
set_option maxHeartbeats 2000000 in
theorem awake_any (w : World) (hT : Tb w) : Calls Tryd.prog 44 #[] w fun e w' => e = .returned (.bool true) ∧ Below w.heap.size w w' := by
  have HT := Aside0.mk hT
  have HS := Aside0.mk ((Sep.nil w).step (below_alloc (Below.refl w.heap.size w) (.cells #[.int .i64 1, .int .i64 2, .int .i64 3, .int .i64 4, .int .i64 5] 3)))
  have C := of_yes (c := 5) (lit_reads w [1, 2, 3, 4, 5] (by decide)) (S := 32) (k := 4) (by decide) (by decide +kernel) (by decide)
  have C := Aside0.mk C
  clear hT
  go_enter Tryd.func44, Tryd.ntmps44
  go_wp2_with fail
  refine C.out.mono ?_
  clear C
  rintro e w1 ⟨p, sb, ob, wb, rfl, hs1⟩
  replace HS := Aside0.mk (HS.out.append hs1)
  clear hs1
  have C := Aside0.mk (spread_resize (l := [1, 2, 3, 4, 5]) (HS.out.arr 0 rfl) (Kd.C_below HT.out HS.out.below) (by decide) (by decide) (by decide) (S2 := 64) (k2 := 8) (by decide) (by decide) (by decide))
  go_wp2_with fail
  refine C.out.mono ?_
  clear C
  rintro e w2 ⟨q, qs, qo, qw, rfl, hs1⟩
  replace HS := Aside0.mk (HS.out.append hs1)
  clear hs1
  obtain ⟨vs, hs⟩ := HS.out.arr 0 rfl
  have C := Aside0.mk (cap_any hs)
  clear hs vs
  go_wp2_with fail
  refine C.out.mono ?_
  clear C
  rintro e w3 ⟨rfl, rfl⟩
  have C := Aside0.mk (spread_places (l := [1, 2, 3, 4, 5]) (HS.out.arr 0 rfl) (Kd.C_below HT.out HS.out.below) (by decide) (by decide) (by decide))
  go_wp2_with fail
  refine C.out.mono ?_
  clear C
  rintro e w3 ⟨A1, c1, rfl, h1, h2, hb⟩
  replace HS := Aside0.mk (HS.out.step hb)
  have HA := below_alloc (Below.refl w3.heap.size w3) (.cells #[.int .i64 0, .int .i64 8, .int .i64 16, .int .i64 24, .int .i64 28] 3)
  have C := ints_any (l := plK 5 4 0 4) (m := [0, 8, 16, 24, 28]) (c1 := 5) (Kd.C_below h2 HA) h1 (lit_reads w3 [0, 8, 16, 24, 28] (by decide)) (Nat.le_refl _) (by rw [pl54]; decide)
  rw [decide_eq_true pl54] at C
  have C := Aside0.mk C
  replace HS := Aside0.mk (HS.out.step HA)
  clear hb h1 h2 HA
  go_wp2_with fail
  refine C.out.mono ?_
  clear C
  rintro e w4 ⟨rfl, hd⟩
  replace HS := Aside0.mk (HS.out.step hd.below)
  clear hd
  have C := Aside0.mk (spread_places (l := [1, 2, 3, 4, 5]) (HS.out.arr 1 rfl) (Kd.C_below HT.out HS.out.below) (by decide) (by decide) (by decide))
  go_wp2_with fail
  refine C.out.mono ?_
  clear C
  rintro e w5 ⟨A2, c2, rfl, h1, h2, hb⟩
  replace HS := Aside0.mk (HS.out.step hb)
  have HA := below_alloc (Below.refl w5.heap.size w5) (.cells #[.int .i64 8, .int .i64 24, .int .i64 32, .int .i64 48, .int .i64 56] 3)
  have C := ints_any (l := plK 5 8 0 8) (m := [8, 24, 32, 48, 56]) (c1 := 5) (Kd.C_below h2 HA) h1 (lit_reads w5 [8, 24, 32, 48, 56] (by decide)) (Nat.le_refl _) (by rw [pl58]; decide)
  rw [decide_eq_true pl58] at C
  have C := Aside0.mk C
  replace HS := Aside0.mk (HS.out.step HA)
  clear hb h1 h2 HA
  go_wp2_with fail
  refine C.out.mono ?_
  clear C
  rintro e w6 ⟨rfl, hd⟩
  replace HS := Aside0.mk (HS.out.step hd.below)
  clear hd
  have C := fits_any 16 64 w6 (Kd.C_below HT.out HS.out.below)
  rw [fit16] at C
  have C := Aside0.mk C
  go_wp2_with fail
  refine C.out.mono ?_
  clear C
  rintro e w7 ⟨rfl, hd⟩
  replace HS := Aside0.mk (HS.out.step hd.below)
  clear hd
  have C := fits_any 15 64 w7 (Kd.C_below HT.out HS.out.below)
  rw [fit15] at C
  have C := Aside0.mk C
  go_wp2_with fail
  refine C.out.mono ?_
  clear C
  rintro e w8 ⟨rfl, hd⟩
  replace HS := Aside0.mk (HS.out.step hd.below)
  clear hd
  go_wp2
  go_ret
  exact ⟨rfl, HS.out.below⟩
end Go.Proofs.YtofkkdjbilklcaaDoor.Y7
