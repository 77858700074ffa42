/- The law SizeLeast walked: it returns true, whatever the number. -/
import Derived.Test.YtofkkdjbilklcaaDoorY9
namespace Go.Proofs.YtofkkdjbilklcaaDoor.YL
open Go.RowKit Go.Shelf Go.Proofs.YtofkkdjbilklcaaDoorW.PrintWords Go.Proofs.YtofkkdjbilklcaaDoorW.PrintLast Go.Proofs.YtofkkdjbilklcaaDoorW.PrintMore G1 G0 Q1 G2 G3 G4 G5 G6 G7 G8 G9 G10 S1 Y1 Y3 Y2 Y4 Y5 Y6 Y7 Y9
open L1 (capB forN hgt cap_mem height_any may_any)
set_option linter.unusedVariables false
set_option linter.unusedSimpArgs false
/-- A block of whole numbers, read as a row. -/
theorem blk_reads {w : World} {b t : Nat} {l : List Int} (h : w.heap[b]? = some (.cells (nums .i64 l).toArray t (0, 0))) (hl : l.length ≤ 1000000) : Kd.C (Kd.int .i64) w (some ⟨b, 0, none⟩) l.length l := by
  refine ⟨rfl, by omega, fun _ => ⟨_, rfl, fun j p hp => ⟨[.int .i64 p], rfl, rfl, fun i u hu => ?_⟩⟩⟩
  obtain ⟨rfl, rfl⟩ : i = 0 ∧ u = .int .i64 p := by
    cases i with
    | zero => exact ⟨rfl, by simpa using hu.symm⟩
    | succ i => simp at hu
  rw [add_plain]
  refine (cell_of_row w b _ _ t (0, 0) h).trans ?_
  show (nums .i64 l).toArray[j * 1 + 0]? = _
  simp [nums, hp]
def fillL (n i : Nat) : List Int := (List.range n).map fun j => if j < i then 3 * (j : Int) else 0
theorem fill_len (n i : Nat) : (fillL n i).length = n := by simp [fillL]
theorem fill_zero (n : Nat) : fillL n 0 = List.replicate n 0 := by
  unfold fillL
  apply List.ext_getElem
  · simp
  · intro i h1 h2
    simp
theorem fill_step {n i : Nat} (h : i < n) : (nums .i64 (fillL n i)).toArray.setIfInBounds i (.int .i64 (3 * (i : Int))) = (nums .i64 (fillL n (i + 1))).toArray := by
  apply Array.ext
  · simp [nums, fillL]
  · intro j h1 h2
    simp only [List.size_toArray, Array.size_setIfInBounds, nums, List.length_map, fill_len] at h1
    simp only [Array.getElem_setIfInBounds, nums, fillL]
    by_cases e : i = j
    · subst e; simp
    · by_cases h3 : j < i
      · simp [e, h3, show j < i + 1 by omega]
      · simp [e, h3, show ¬ j < i + 1 by omega]
def leastB (n : Nat) : Bool :=
  let S := forN (n : Int)
  let h := hgt S
  capB S && decide (0 ≤ S ∧ S ≤ 4096 ∧ S / 8 * 8 = S) && (decide (S ≤ 32) || (capB (S / 2) && decide (wiE n (hgt (S / 2)) (hgt (S / 2)) = 0) && decide (wiN n (hgt (S / 2)) (hgt (S / 2)) = 1) && !fitsB n (S / 2))) &&
  decide (wiE n h h = 0) && decide (wiN n h h ≠ 1) && (fitsB (n + 1) S || fitsB (n + 1) (2 * S) || decide (n = 2560) || decide (wiN n h h = -1)) && (fitsB n S == decide (wiN n h h = 0))
set_option maxRecDepth 100000 in
theorem least_small : ∀ n : Nat, n < 2561 → leastB n = true := by decide +kernel

section
variable {w : World}
set_option maxRecDepth 100000 in
theorem law_out (hT : Tb w) {n : Int} (h : n < 0 ∨ 2600 < n) : Calls Tryd.prog 10 #[.int .i64 n] w fun e w' => e = .returned (.bool true) ∧ Below w.heap.size w w' := by
  have HT := Aside0.mk hT
  have HS := Aside0.mk (Sep.nil w)
  clear hT
  by_cases h1 : n < 0
  · clear h
    go_enter Tryd.func10, Tryd.ntmps10
    have C := Aside0.mk (awake_any _ (Kd.C_below HT.out HS.out.below))
    go_wp2_with fail
    refine C.out.mono ?_
    clear C
    rintro e w30 ⟨rfl, hb⟩
    replace HS := Aside0.mk (HS.out.step hb)
    clear hb
    go_wp2
    (try rw [Exit.noGoto_ret])
    go_ret
    exact ⟨rfl, HS.out.below⟩
  · have h2 : 2600 < n := by omega
    clear h
    go_enter Tryd.func10, Tryd.ntmps10
    have C := Aside0.mk (awake_any _ (Kd.C_below HT.out HS.out.below))
    go_wp2_with fail
    refine C.out.mono ?_
    clear C
    rintro e w30 ⟨rfl, hb⟩
    replace HS := Aside0.mk (HS.out.step hb)
    clear hb
    go_wp2
    (try rw [Exit.noGoto_ret])
    go_ret
    exact ⟨rfl, HS.out.below⟩
set_option maxRecDepth 100000 in
theorem law_full (hT : Tb w) {n : Nat} (h1 : 2560 < n) (h2 : n ≤ 2600) : Calls Tryd.prog 10 #[.int .i64 (n : Int)] w fun e w' => e = .returned (.bool true) ∧ Below w.heap.size w w' := by
  have hmk := print_make_int (P := Tryd.prog) 22 3 (.int .i64 0) 8 Tryd.underlying22 info_int rfl (by decide) (n : Int) (by omega) (by omega)
  rw [Int.toNat_natCast, made_nums, ← fill_zero] at hmk
  have HT := Aside0.mk hT
  have HS := Aside0.mk ((Sep.nil w).new_blk (nums .i64 (fillL n 0)).toArray 3)
  have q1 : ¬ (n : Int) < 0 := by omega
  have q2 : ¬ 2600 < (n : Int) := by omega
  clear hT
  go_enter Tryd.func10, Tryd.ntmps10
  go_wp2
  clear q1 q2 hmk
  go_loopg [4] (n + 1) (fun kq v4 W => ∃ i : Nat, v4 = .int .i64 i ∧ i ≤ n ∧ Aside0 (n + 1 - i ≤ kq) ∧ Aside0 (Sep w W [S1.Blk w.heap.size (nums .i64 (fillL n i)).toArray 3]))
  case atStart => exact ⟨0, rfl, by omega, ⟨by omega⟩, HS⟩
  case round =>
    clear HS
    obtain ⟨i, rfl, hi, HQ, HS⟩ := hrel
    by_cases hlt : i < n
    · have c0 : (_ : Option Value) = some (.int .i64 ((fillL n i).getD i 0)) := (blk_cell (HS.out.blk 0 rfl) i).trans (by simp [nums, List.getD_eq_getElem?_getD, fill_len, hlt])
      have f0 := blk_frozen (HS.out.blk 0 rfl) i
      have HF := Aside0.mk (fill_step hlt)
      generalize (fillL n i).getD i 0 = y at *
      go_wp2
      go_roundg (n - i)
      case measure => have := HQ.out; omega
      case rel => exact ⟨i + 1, by go_num, by omega, ⟨by omega⟩, ⟨by rw [← HF.out]; exact HS.out.turn_blk 0 rfl i (.int .i64 (3 * (i : Int)))⟩⟩
    · have C := Aside0.mk (fun w => of_full (A := some ⟨w.heap.size, 0, none⟩) (c := n) h1 w)
      obtain rfl : i = n := by omega
      go_wp2_with fail
      refine (of_full h1 _).mono ?_
      rintro e w1 ⟨rfl, hb⟩
      replace HS := Aside0.mk (HS.out.step hb)
      clear hb
      have C := Aside0.mk (awake_any _ (Kd.C_below HT.out HS.out.below))
      go_wp2_with fail
      refine C.out.mono ?_
      clear C
      rintro e w30 ⟨rfl, hb⟩
      replace HS := Aside0.mk (HS.out.step hb)
      clear hb
      go_wp2
      (try rw [Exit.noGoto_ret])
      go_ret
      exact ⟨rfl, HS.out.below⟩
theorem least_parts {n : Nat} (hn : n ≤ 2560) : ∃ S k : Nat, forN (n : Int) = (S : Int) ∧ S = 8 * k ∧ 1 ≤ k ∧ S ≤ 4096 ∧ n ≤ S ∧ capB (S : Int) = true ∧
    (32 < S → ∃ S2 : Nat, S = 2 * S2 ∧ capB (S2 : Int) = true ∧ wiE n (hgt S2) (hgt S2) = 0 ∧ wiN n (hgt S2) (hgt S2) = 1 ∧ fitsB n S2 = false) ∧
    wiE n (hgt S) (hgt S) = 0 ∧ (wiN n (hgt S) (hgt S) = 0 ∨ wiN n (hgt S) (hgt S) = -1) ∧ (fitsB (n + 1) S || fitsB (n + 1) (2 * S) || decide (n = 2560) || decide (wiN n (hgt S) (hgt S) = -1)) = true ∧ fitsB n S = decide (wiN n (hgt S) (hgt S) = 0) := by
  have h := least_small n (by omega)
  unfold leastB at h
  dsimp only at h
  simp only [Bool.and_eq_true, Bool.or_eq_true (decide _), decide_eq_true_eq, beq_iff_eq] at h
  obtain ⟨⟨⟨⟨⟨⟨h1, h2⟩, h3⟩, h4⟩, h5⟩, h6⟩, h7⟩ := h
  obtain ⟨_, hle, _⟩ := for_small n (by omega)
  obtain ⟨S, hS⟩ := Int.eq_ofNat_of_zero_le h2.1
  rw [hS] at h1 h2 h3 h4 h5 h6 h7 hle
  obtain ⟨k, hk, hk1, _, _, _⟩ := cap_nat h1
  refine ⟨S, k, hS, hk, by omega, by omega, by omega, h1, fun h32 => ?_, h4, ?_, by simpa using h6, h7⟩
  · rcases h3 with h3 | h3
    · omega
    · have hm := cap_mem h1
      obtain ⟨S2, hS2⟩ : ∃ S2, S = 2 * S2 := ⟨S / 2, by simp only [List.mem_cons, List.not_mem_nil, or_false] at hm; omega⟩
      have e : (S : Int) / 2 = (S2 : Int) := by omega
      rw [e] at h3
      obtain ⟨⟨⟨g1, g2⟩, g3⟩, g4⟩ := h3
      exact ⟨S2, hS2, g1, g2, g3, by simpa using g4⟩
  · unfold wiN withN at h5 ⊢
    revert h5
    split
    · intro _; exact .inl rfl
    · split
      · intro _; exact .inl rfl
      · split
        · intro h; exact absurd rfl h
        · split
          · intro _; exact .inr rfl
          · intro _; exact .inl rfl
set_option maxRecDepth 100000 in
set_option maxHeartbeats 16000000 in
theorem law_good (hT : Tb w) {n : Nat} (h1 : n ≤ 2560) : Calls Tryd.prog 10 #[.int .i64 (n : Int)] w fun e w' => e = .returned (.bool true) ∧ Below w.heap.size w w' := by
  have hmk := print_make_int (P := Tryd.prog) 22 3 (.int .i64 0) 8 Tryd.underlying22 info_int rfl (by decide) (n : Int) (by omega) (by omega)
  rw [Int.toNat_natCast, made_nums, ← fill_zero] at hmk
  have HT := Aside0.mk hT
  have HS := Aside0.mk ((Sep.nil w).new_blk (nums .i64 (fillL n 0)).toArray 3)
  have q1 : ¬ (n : Int) < 0 := by omega
  have q2 : ¬ 2600 < (n : Int) := by omega
  clear hT
  go_enter Tryd.func10, Tryd.ntmps10
  go_wp2
  clear q1 q2 hmk
  go_loopg [4] (n + 1) (fun kq v4 W => ∃ i : Nat, v4 = .int .i64 i ∧ i ≤ n ∧ Aside0 (n + 1 - i ≤ kq) ∧ Aside0 (Sep w W [S1.Blk w.heap.size (nums .i64 (fillL n i)).toArray 3]))
  case atStart => exact ⟨0, rfl, by omega, ⟨by omega⟩, HS⟩
  case round =>
    clear HS
    obtain ⟨i, rfl, hi, HQ, HS⟩ := hrel
    by_cases hlt : i < n
    · have c0 : (_ : Option Value) = some (.int .i64 ((fillL n i).getD i 0)) := (blk_cell (HS.out.blk 0 rfl) i).trans (by simp [nums, List.getD_eq_getElem?_getD, fill_len, hlt])
      have f0 := blk_frozen (HS.out.blk 0 rfl) i
      have HF := Aside0.mk (fill_step hlt)
      generalize (fillL n i).getD i 0 = y at *
      go_wp2
      go_roundg (n - i)
      case measure => have := HQ.out; omega
      case rel => exact ⟨i + 1, by go_num, by omega, ⟨by omega⟩, ⟨by rw [← HF.out]; exact HS.out.turn_blk 0 rfl i (.int .i64 (3 * (i : Int)))⟩⟩
    · obtain rfl : i = n := by omega
      obtain ⟨S, k, hS, hk, hk1, hS4, hnS, a1, a2, a6, ho, a8, a9⟩ := least_parts h1
      have a7 : wiE i (hgt S) (hgt S) = 0 := a6
      obtain ⟨l, hl⟩ : ∃ l, fillL i i = l := ⟨_, rfl⟩
      have hlen : l.length = i := by rw [← hl, fill_len]
      rw [hl] at HS
      have HR := Aside0.mk (blk_reads (HS.out.blk 0 rfl) (by omega))
      rw [hlen] at HR
      have HK := Aside0.mk (And.intro hk1 hk)
      have C := of_yes (c := i) (by rw [hlen]; exact HR.out) (by omega) (by rw [hlen]; exact hS) hk
      have CIT := Aside0.mk (fun (p sb ob wb : Nat) (W : World) h1 h2 => spread_items (w := W) (p := p) (sb := sb) (ob := ob) (wb := wb) (l := l) h1 h2 hk1 hk (by omega))
      have HCN := Aside0.mk (lay_cnt (l := l) (show Rise S (plK l.length k 0 k) by rw [hk]; exact pl_rise hk1 (by omega)))
      rw [pl_len 0 hk1] at HCN
      have HL := Aside0.mk hlen
      rw [hlen] at C CIT HCN
      have C := Aside0.mk C
      clear hS hk hl hlt hlen a6
      go_wp2_with fail
      refine C.out.mono ?_
      clear C
      rintro e w1 ⟨p, sb, ob, wb, rfl, hs1⟩
      replace HR := Aside0.mk (Kd.C_below HR.out hs1.below)
      replace HS := Aside0.mk (HS.out.append hs1)
      clear hs1
      obtain ⟨vs, hs⟩ := HS.out.arr 1 rfl
      have C := Aside0.mk (cap_any hs)
      clear hs vs
      go_wp2_with fail
      refine C.out.mono ?_
      clear C
      rintro e wc ⟨rfl, rfl⟩
      have C := may_any (S : Int)
      rw [a1] at C
      have C := Aside0.mk C
      go_wp2_with fail
      refine (C.out _).mono ?_
      clear C
      rintro e wd ⟨rfl, hd⟩
      replace HS := Aside0.mk (HS.out.step hd.below)
      clear hd
      replace HR := Aside0.mk (blk_reads (HS.out.blk 0 rfl) (by have := HL.out; omega))
      rw [HL.out] at HR
      obtain ⟨vs, hs⟩ := HS.out.arr 1 rfl
      have C := slen_any hs
      rw [HCN.out] at C
      have C := Aside0.mk C
      clear hs vs
      go_wp2_with fail
      refine C.out.mono ?_
      clear C
      rintro e wd ⟨rfl, hd⟩
      replace HS := Aside0.mk (HS.out.step hd.below)
      clear hd
      have C := Aside0.mk (CIT.out p sb ob wb _ (HS.out.arr 1 rfl) (Kd.C_below HT.out HS.out.below))
      go_wp2_with fail
      refine C.out.mono ?_
      clear C
      rintro e w4 ⟨A1, c1, rfl, g1, g2, hb⟩
      replace HS := Aside0.mk (HS.out.step hb)
      replace HR := Aside0.mk (blk_reads (HS.out.blk 0 rfl) (by have := HL.out; omega))
      rw [HL.out] at HR
      have C := ints_any (l := l) (m := l) g2 g1 HR.out (Nat.le_refl _) (by have := HL.out; omega)
      rw [decide_eq_true rfl] at C
      have C := Aside0.mk C
      clear hb g1 g2
      go_wp2_with fail
      refine C.out.mono ?_
      clear C
      rintro e w5 ⟨rfl, hd⟩
      replace HS := Aside0.mk (HS.out.step hd.below)
      clear hd HR
      by_cases h32 : 32 < S
      · obtain ⟨S2, hS2, b1, b2, b3, b4⟩ := a2 h32
        have hq : wrap64 ((S : Int) / 2) = (S2 : Int) := by rw [show (S : Int) / 2 = (S2 : Int) by omega]; exact Y1.w64 (by omega) (by omega)
        have hq2 : (S : Int) / 2 = (S2 : Int) := by omega
        clear hS2
        obtain ⟨vs, hs⟩ := HS.out.arr 1 rfl
        have C := Aside0.mk (cap_any hs)
        clear hs vs
        go_wp2_with fail
        refine C.out.mono ?_
        clear C
        rintro e wc ⟨rfl, rfl⟩
        obtain ⟨vs, hs⟩ := HS.out.arr 1 rfl
        have C := Aside0.mk (cap_any hs)
        clear hs vs
        go_wp2_with fail
        refine C.out.mono ?_
        clear C
        rintro e wc ⟨rfl, rfl⟩
        have C := height_any (S2 : Int) _ (Kd.C_below HT.out HS.out.below)
        rw [b1, if_pos rfl] at C
        have C := Aside0.mk C
        go_wp2_with fail
        refine C.out.mono ?_
        clear C
        rintro e wd ⟨rfl, hd⟩
        replace HS := Aside0.mk (HS.out.step hd.below)
        clear hd
        have C := within_any (i : Int) (hgt S2) (hgt S2)
        rw [b2, b3] at C
        have C := Aside0.mk C
        go_wp2_with fail
        refine (C.out _).mono ?_
        clear C
        rintro e wd ⟨rfl, hd⟩
        replace HS := Aside0.mk (HS.out.step hd.below)
        clear hd
        obtain ⟨vs, hs⟩ := HS.out.arr 1 rfl
        have C := Aside0.mk (cap_any hs)
        clear hs vs
        go_wp2_with fail
        refine C.out.mono ?_
        clear C
        rintro e wc ⟨rfl, rfl⟩
        have C := fits_any (i : Int) (S2 : Int) _ (Kd.C_below HT.out HS.out.below)
        rw [b4] at C
        have C := Aside0.mk C
        go_wp2_with fail
        refine C.out.mono ?_
        clear C
        rintro e wd ⟨rfl, hd⟩
        replace HS := Aside0.mk (HS.out.step hd.below)
        clear hd
        clear b1 b2 b3 b4 hq hq2
        generalize i = n at *
        obtain ⟨vs, hs⟩ := HS.out.arr 1 rfl
        have C := Aside0.mk (cap_any hs)
        clear hs vs
        go_wp2_with fail
        refine C.out.mono ?_
        clear C
        rintro e wc ⟨rfl, rfl⟩
        have C := height_any (S : Int) _ (Kd.C_below HT.out HS.out.below)
        rw [a1, if_pos rfl] at C
        have C := Aside0.mk C
        go_wp2_with fail
        refine C.out.mono ?_
        clear C
        rintro e wd ⟨rfl, hd⟩
        replace HS := Aside0.mk (HS.out.step hd.below)
        clear hd
        have C := within_any (n : Int) (hgt S) (hgt S)
        rw [a7] at C
        have C := Aside0.mk C
        go_wp2_with fail
        refine (C.out _).mono ?_
        clear C
        rintro e wd ⟨rfl, hd⟩
        replace HS := Aside0.mk (HS.out.step hd.below)
        clear hd
        rcases ho with ho | ho
        · have a10 : fitsB n S = true := by rw [a9, ho]; rfl
          rw [ho] at a8
          rw [ho]
          clear ho a9
          cases b1 : fitsB ((n : Int) + 1) (S : Int) with
          | true =>
            obtain ⟨vs, hs⟩ := HS.out.arr 1 rfl
            have C := Aside0.mk (cap_any hs)
            clear hs vs
            go_wp2_with fail
            refine C.out.mono ?_
            clear C
            rintro e wc ⟨rfl, rfl⟩
            have C := fits_any ((n : Int) + 1) (S : Int) _ (Kd.C_below HT.out HS.out.below)
            rw [b1] at C
            have C := Aside0.mk C
            go_wp2_with fail
            refine C.out.mono ?_
            clear C
            rintro e wd ⟨rfl, hd⟩
            replace HS := Aside0.mk (HS.out.step hd.below)
            clear hd
            obtain ⟨vs, hs⟩ := HS.out.arr 1 rfl
            have C := Aside0.mk (cap_any hs)
            clear hs vs
            go_wp2_with fail
            refine C.out.mono ?_
            clear C
            rintro e wc ⟨rfl, rfl⟩
            have C := fits_any (n : Int) (S : Int) _ (Kd.C_below HT.out HS.out.below)
            rw [a10] at C
            have C := Aside0.mk C
            go_wp2_with fail
            refine C.out.mono ?_
            clear C
            rintro e wd ⟨rfl, hd⟩
            replace HS := Aside0.mk (HS.out.step hd.below)
            clear hd
            have C := Aside0.mk (awake_any _ (Kd.C_below HT.out HS.out.below))
            go_wp2_with fail
            refine C.out.mono ?_
            clear C
            rintro e w30 ⟨rfl, hb⟩
            replace HS := Aside0.mk (HS.out.step hb)
            clear hb
            go_wp2
            (try rw [Exit.noGoto_ret])
            go_ret
            exact ⟨rfl, HS.out.below⟩
          | false =>
            cases b2 : fitsB ((n : Int) + 1) (2 * (S : Int)) with
            | true =>
              obtain ⟨vs, hs⟩ := HS.out.arr 1 rfl
              have C := Aside0.mk (cap_any hs)
              clear hs vs
              go_wp2_with fail
              refine C.out.mono ?_
              clear C
              rintro e wc ⟨rfl, rfl⟩
              have C := fits_any ((n : Int) + 1) (S : Int) _ (Kd.C_below HT.out HS.out.below)
              rw [b1] at C
              have C := Aside0.mk C
              go_wp2_with fail
              refine C.out.mono ?_
              clear C
              rintro e wd ⟨rfl, hd⟩
              replace HS := Aside0.mk (HS.out.step hd.below)
              clear hd
              obtain ⟨vs, hs⟩ := HS.out.arr 1 rfl
              have C := Aside0.mk (cap_any hs)
              clear hs vs
              go_wp2_with fail
              refine C.out.mono ?_
              clear C
              rintro e wc ⟨rfl, rfl⟩
              have C := fits_any ((n : Int) + 1) (2 * (S : Int)) _ (Kd.C_below HT.out HS.out.below)
              rw [b2] at C
              have C := Aside0.mk C
              go_wp2_with fail
              refine C.out.mono ?_
              clear C
              rintro e wd ⟨rfl, hd⟩
              replace HS := Aside0.mk (HS.out.step hd.below)
              clear hd
              obtain ⟨vs, hs⟩ := HS.out.arr 1 rfl
              have C := Aside0.mk (cap_any hs)
              clear hs vs
              go_wp2_with fail
              refine C.out.mono ?_
              clear C
              rintro e wc ⟨rfl, rfl⟩
              have C := fits_any (n : Int) (S : Int) _ (Kd.C_below HT.out HS.out.below)
              rw [a10] at C
              have C := Aside0.mk C
              go_wp2_with fail
              refine C.out.mono ?_
              clear C
              rintro e wd ⟨rfl, hd⟩
              replace HS := Aside0.mk (HS.out.step hd.below)
              clear hd
              have C := Aside0.mk (awake_any _ (Kd.C_below HT.out HS.out.below))
              go_wp2_with fail
              refine C.out.mono ?_
              clear C
              rintro e w30 ⟨rfl, hb⟩
              replace HS := Aside0.mk (HS.out.step hb)
              clear hb
              go_wp2
              (try rw [Exit.noGoto_ret])
              go_ret
              exact ⟨rfl, HS.out.below⟩
            | false =>
              rw [b1, b2] at a8
              have e2 : n = 2560 := by simpa using a8
              have e3 : ((n : Int) == 2560) = true := by rw [e2]; rfl
              clear e2
              obtain ⟨vs, hs⟩ := HS.out.arr 1 rfl
              have C := Aside0.mk (cap_any hs)
              clear hs vs
              go_wp2_with fail
              refine C.out.mono ?_
              clear C
              rintro e wc ⟨rfl, rfl⟩
              have C := fits_any ((n : Int) + 1) (S : Int) _ (Kd.C_below HT.out HS.out.below)
              rw [b1] at C
              have C := Aside0.mk C
              go_wp2_with fail
              refine C.out.mono ?_
              clear C
              rintro e wd ⟨rfl, hd⟩
              replace HS := Aside0.mk (HS.out.step hd.below)
              clear hd
              obtain ⟨vs, hs⟩ := HS.out.arr 1 rfl
              have C := Aside0.mk (cap_any hs)
              clear hs vs
              go_wp2_with fail
              refine C.out.mono ?_
              clear C
              rintro e wc ⟨rfl, rfl⟩
              have C := fits_any ((n : Int) + 1) (2 * (S : Int)) _ (Kd.C_below HT.out HS.out.below)
              rw [b2] at C
              have C := Aside0.mk C
              go_wp2_with fail
              refine C.out.mono ?_
              clear C
              rintro e wd ⟨rfl, hd⟩
              replace HS := Aside0.mk (HS.out.step hd.below)
              clear hd
              obtain ⟨vs, hs⟩ := HS.out.arr 1 rfl
              have C := Aside0.mk (cap_any hs)
              clear hs vs
              go_wp2_with fail
              refine C.out.mono ?_
              clear C
              rintro e wc ⟨rfl, rfl⟩
              have C := fits_any (n : Int) (S : Int) _ (Kd.C_below HT.out HS.out.below)
              rw [a10] at C
              have C := Aside0.mk C
              go_wp2_with fail
              refine C.out.mono ?_
              clear C
              rintro e wd ⟨rfl, hd⟩
              replace HS := Aside0.mk (HS.out.step hd.below)
              clear hd
              have C := Aside0.mk (awake_any _ (Kd.C_below HT.out HS.out.below))
              go_wp2_with fail
              refine C.out.mono ?_
              clear C
              rintro e w30 ⟨rfl, hb⟩
              replace HS := Aside0.mk (HS.out.step hb)
              clear hb
              go_wp2
              (try rw [Exit.noGoto_ret])
              go_ret
              exact ⟨rfl, HS.out.below⟩
        · have a10 : fitsB n S = false := by rw [a9, ho]; rfl
          rw [ho]
          clear ho a9
          cases b1 : fitsB ((n : Int) + 1) (S : Int) with
          | true =>
            obtain ⟨vs, hs⟩ := HS.out.arr 1 rfl
            have C := Aside0.mk (cap_any hs)
            clear hs vs
            go_wp2_with fail
            refine C.out.mono ?_
            clear C
            rintro e wc ⟨rfl, rfl⟩
            have C := fits_any ((n : Int) + 1) (S : Int) _ (Kd.C_below HT.out HS.out.below)
            rw [b1] at C
            have C := Aside0.mk C
            go_wp2_with fail
            refine C.out.mono ?_
            clear C
            rintro e wd ⟨rfl, hd⟩
            replace HS := Aside0.mk (HS.out.step hd.below)
            clear hd
            obtain ⟨vs, hs⟩ := HS.out.arr 1 rfl
            have C := Aside0.mk (cap_any hs)
            clear hs vs
            go_wp2_with fail
            refine C.out.mono ?_
            clear C
            rintro e wc ⟨rfl, rfl⟩
            have C := fits_any (n : Int) (S : Int) _ (Kd.C_below HT.out HS.out.below)
            rw [a10] at C
            have C := Aside0.mk C
            go_wp2_with fail
            refine C.out.mono ?_
            clear C
            rintro e wd ⟨rfl, hd⟩
            replace HS := Aside0.mk (HS.out.step hd.below)
            clear hd
            have C := Aside0.mk (awake_any _ (Kd.C_below HT.out HS.out.below))
            go_wp2_with fail
            refine C.out.mono ?_
            clear C
            rintro e w30 ⟨rfl, hb⟩
            replace HS := Aside0.mk (HS.out.step hb)
            clear hb
            go_wp2
            (try rw [Exit.noGoto_ret])
            go_ret
            exact ⟨rfl, HS.out.below⟩
          | false =>
            cases b2 : fitsB ((n : Int) + 1) (2 * (S : Int)) with
            | true =>
              obtain ⟨vs, hs⟩ := HS.out.arr 1 rfl
              have C := Aside0.mk (cap_any hs)
              clear hs vs
              go_wp2_with fail
              refine C.out.mono ?_
              clear C
              rintro e wc ⟨rfl, rfl⟩
              have C := fits_any ((n : Int) + 1) (S : Int) _ (Kd.C_below HT.out HS.out.below)
              rw [b1] at C
              have C := Aside0.mk C
              go_wp2_with fail
              refine C.out.mono ?_
              clear C
              rintro e wd ⟨rfl, hd⟩
              replace HS := Aside0.mk (HS.out.step hd.below)
              clear hd
              obtain ⟨vs, hs⟩ := HS.out.arr 1 rfl
              have C := Aside0.mk (cap_any hs)
              clear hs vs
              go_wp2_with fail
              refine C.out.mono ?_
              clear C
              rintro e wc ⟨rfl, rfl⟩
              have C := fits_any ((n : Int) + 1) (2 * (S : Int)) _ (Kd.C_below HT.out HS.out.below)
              rw [b2] at C
              have C := Aside0.mk C
              go_wp2_with fail
              refine C.out.mono ?_
              clear C
              rintro e wd ⟨rfl, hd⟩
              replace HS := Aside0.mk (HS.out.step hd.below)
              clear hd
              obtain ⟨vs, hs⟩ := HS.out.arr 1 rfl
              have C := Aside0.mk (cap_any hs)
              clear hs vs
              go_wp2_with fail
              refine C.out.mono ?_
              clear C
              rintro e wc ⟨rfl, rfl⟩
              have C := fits_any (n : Int) (S : Int) _ (Kd.C_below HT.out HS.out.below)
              rw [a10] at C
              have C := Aside0.mk C
              go_wp2_with fail
              refine C.out.mono ?_
              clear C
              rintro e wd ⟨rfl, hd⟩
              replace HS := Aside0.mk (HS.out.step hd.below)
              clear hd
              have C := Aside0.mk (awake_any _ (Kd.C_below HT.out HS.out.below))
              go_wp2_with fail
              refine C.out.mono ?_
              clear C
              rintro e w30 ⟨rfl, hb⟩
              replace HS := Aside0.mk (HS.out.step hb)
              clear hb
              go_wp2
              (try rw [Exit.noGoto_ret])
              go_ret
              exact ⟨rfl, HS.out.below⟩
            | false =>
              by_cases e2 : n = 2560
              · have e3 : ((n : Int) == 2560) = true := by rw [e2]; rfl
                clear e2
                obtain ⟨vs, hs⟩ := HS.out.arr 1 rfl
                have C := Aside0.mk (cap_any hs)
                clear hs vs
                go_wp2_with fail
                refine C.out.mono ?_
                clear C
                rintro e wc ⟨rfl, rfl⟩
                have C := fits_any ((n : Int) + 1) (S : Int) _ (Kd.C_below HT.out HS.out.below)
                rw [b1] at C
                have C := Aside0.mk C
                go_wp2_with fail
                refine C.out.mono ?_
                clear C
                rintro e wd ⟨rfl, hd⟩
                replace HS := Aside0.mk (HS.out.step hd.below)
                clear hd
                obtain ⟨vs, hs⟩ := HS.out.arr 1 rfl
                have C := Aside0.mk (cap_any hs)
                clear hs vs
                go_wp2_with fail
                refine C.out.mono ?_
                clear C
                rintro e wc ⟨rfl, rfl⟩
                have C := fits_any ((n : Int) + 1) (2 * (S : Int)) _ (Kd.C_below HT.out HS.out.below)
                rw [b2] at C
                have C := Aside0.mk C
                go_wp2_with fail
                refine C.out.mono ?_
                clear C
                rintro e wd ⟨rfl, hd⟩
                replace HS := Aside0.mk (HS.out.step hd.below)
                clear hd
                obtain ⟨vs, hs⟩ := HS.out.arr 1 rfl
                have C := Aside0.mk (cap_any hs)
                clear hs vs
                go_wp2_with fail
                refine C.out.mono ?_
                clear C
                rintro e wc ⟨rfl, rfl⟩
                have C := fits_any (n : Int) (S : Int) _ (Kd.C_below HT.out HS.out.below)
                rw [a10] at C
                have C := Aside0.mk C
                go_wp2_with fail
                refine C.out.mono ?_
                clear C
                rintro e wd ⟨rfl, hd⟩
                replace HS := Aside0.mk (HS.out.step hd.below)
                clear hd
                have C := Aside0.mk (awake_any _ (Kd.C_below HT.out HS.out.below))
                go_wp2_with fail
                refine C.out.mono ?_
                clear C
                rintro e w30 ⟨rfl, hb⟩
                replace HS := Aside0.mk (HS.out.step hb)
                clear hb
                go_wp2
                (try rw [Exit.noGoto_ret])
                go_ret
                exact ⟨rfl, HS.out.below⟩
              · have e3 : ((n : Int) == 2560) = false := beq_eq_false_iff_ne.2 (by omega)
                obtain ⟨vs, hs⟩ := HS.out.arr 1 rfl
                have C := Aside0.mk (cap_any hs)
                clear hs vs
                go_wp2_with fail
                refine C.out.mono ?_
                clear C
                rintro e wc ⟨rfl, rfl⟩
                have C := fits_any ((n : Int) + 1) (S : Int) _ (Kd.C_below HT.out HS.out.below)
                rw [b1] at C
                have C := Aside0.mk C
                go_wp2_with fail
                refine C.out.mono ?_
                clear C
                rintro e wd ⟨rfl, hd⟩
                replace HS := Aside0.mk (HS.out.step hd.below)
                clear hd
                obtain ⟨vs, hs⟩ := HS.out.arr 1 rfl
                have C := Aside0.mk (cap_any hs)
                clear hs vs
                go_wp2_with fail
                refine C.out.mono ?_
                clear C
                rintro e wc ⟨rfl, rfl⟩
                have C := fits_any ((n : Int) + 1) (2 * (S : Int)) _ (Kd.C_below HT.out HS.out.below)
                rw [b2] at C
                have C := Aside0.mk C
                go_wp2_with fail
                refine C.out.mono ?_
                clear C
                rintro e wd ⟨rfl, hd⟩
                replace HS := Aside0.mk (HS.out.step hd.below)
                clear hd
                obtain ⟨vs, hs⟩ := HS.out.arr 1 rfl
                have C := Aside0.mk (cap_any hs)
                clear hs vs
                go_wp2_with fail
                refine C.out.mono ?_
                clear C
                rintro e wc ⟨rfl, rfl⟩
                have C := fits_any (n : Int) (S : Int) _ (Kd.C_below HT.out HS.out.below)
                rw [a10] at C
                have C := Aside0.mk C
                go_wp2_with fail
                refine C.out.mono ?_
                clear C
                rintro e wd ⟨rfl, hd⟩
                replace HS := Aside0.mk (HS.out.step hd.below)
                clear hd
                have C := Aside0.mk (awake_any _ (Kd.C_below HT.out HS.out.below))
                go_wp2_with fail
                refine C.out.mono ?_
                clear C
                rintro e w30 ⟨rfl, hb⟩
                replace HS := Aside0.mk (HS.out.step hb)
                clear hb
                go_wp2
                (try rw [Exit.noGoto_ret])
                go_ret
                exact ⟨rfl, HS.out.below⟩
      · generalize i = n at *
        obtain ⟨vs, hs⟩ := HS.out.arr 1 rfl
        have C := Aside0.mk (cap_any hs)
        clear hs vs
        go_wp2_with fail
        refine C.out.mono ?_
        clear C
        rintro e wc ⟨rfl, rfl⟩
        obtain ⟨vs, hs⟩ := HS.out.arr 1 rfl
        have C := Aside0.mk (cap_any hs)
        clear hs vs
        go_wp2_with fail
        refine C.out.mono ?_
        clear C
        rintro e wc ⟨rfl, rfl⟩
        have C := height_any (S : Int) _ (Kd.C_below HT.out HS.out.below)
        rw [a1, if_pos rfl] at C
        have C := Aside0.mk C
        go_wp2_with fail
        refine C.out.mono ?_
        clear C
        rintro e wd ⟨rfl, hd⟩
        replace HS := Aside0.mk (HS.out.step hd.below)
        clear hd
        have C := within_any (n : Int) (hgt S) (hgt S)
        rw [a7] at C
        have C := Aside0.mk C
        go_wp2_with fail
        refine (C.out _).mono ?_
        clear C
        rintro e wd ⟨rfl, hd⟩
        replace HS := Aside0.mk (HS.out.step hd.below)
        clear hd
        rcases ho with ho | ho
        · have a10 : fitsB n S = true := by rw [a9, ho]; rfl
          rw [ho] at a8
          rw [ho]
          clear ho a9
          cases b1 : fitsB ((n : Int) + 1) (S : Int) with
          | true =>
            obtain ⟨vs, hs⟩ := HS.out.arr 1 rfl
            have C := Aside0.mk (cap_any hs)
            clear hs vs
            go_wp2_with fail
            refine C.out.mono ?_
            clear C
            rintro e wc ⟨rfl, rfl⟩
            have C := fits_any ((n : Int) + 1) (S : Int) _ (Kd.C_below HT.out HS.out.below)
            rw [b1] at C
            have C := Aside0.mk C
            go_wp2_with fail
            refine C.out.mono ?_
            clear C
            rintro e wd ⟨rfl, hd⟩
            replace HS := Aside0.mk (HS.out.step hd.below)
            clear hd
            obtain ⟨vs, hs⟩ := HS.out.arr 1 rfl
            have C := Aside0.mk (cap_any hs)
            clear hs vs
            go_wp2_with fail
            refine C.out.mono ?_
            clear C
            rintro e wc ⟨rfl, rfl⟩
            have C := fits_any (n : Int) (S : Int) _ (Kd.C_below HT.out HS.out.below)
            rw [a10] at C
            have C := Aside0.mk C
            go_wp2_with fail
            refine C.out.mono ?_
            clear C
            rintro e wd ⟨rfl, hd⟩
            replace HS := Aside0.mk (HS.out.step hd.below)
            clear hd
            have C := Aside0.mk (awake_any _ (Kd.C_below HT.out HS.out.below))
            go_wp2_with fail
            refine C.out.mono ?_
            clear C
            rintro e w30 ⟨rfl, hb⟩
            replace HS := Aside0.mk (HS.out.step hb)
            clear hb
            go_wp2
            (try rw [Exit.noGoto_ret])
            go_ret
            exact ⟨rfl, HS.out.below⟩
          | false =>
            cases b2 : fitsB ((n : Int) + 1) (2 * (S : Int)) with
            | true =>
              obtain ⟨vs, hs⟩ := HS.out.arr 1 rfl
              have C := Aside0.mk (cap_any hs)
              clear hs vs
              go_wp2_with fail
              refine C.out.mono ?_
              clear C
              rintro e wc ⟨rfl, rfl⟩
              have C := fits_any ((n : Int) + 1) (S : Int) _ (Kd.C_below HT.out HS.out.below)
              rw [b1] at C
              have C := Aside0.mk C
              go_wp2_with fail
              refine C.out.mono ?_
              clear C
              rintro e wd ⟨rfl, hd⟩
              replace HS := Aside0.mk (HS.out.step hd.below)
              clear hd
              obtain ⟨vs, hs⟩ := HS.out.arr 1 rfl
              have C := Aside0.mk (cap_any hs)
              clear hs vs
              go_wp2_with fail
              refine C.out.mono ?_
              clear C
              rintro e wc ⟨rfl, rfl⟩
              have C := fits_any ((n : Int) + 1) (2 * (S : Int)) _ (Kd.C_below HT.out HS.out.below)
              rw [b2] at C
              have C := Aside0.mk C
              go_wp2_with fail
              refine C.out.mono ?_
              clear C
              rintro e wd ⟨rfl, hd⟩
              replace HS := Aside0.mk (HS.out.step hd.below)
              clear hd
              obtain ⟨vs, hs⟩ := HS.out.arr 1 rfl
              have C := Aside0.mk (cap_any hs)
              clear hs vs
              go_wp2_with fail
              refine C.out.mono ?_
              clear C
              rintro e wc ⟨rfl, rfl⟩
              have C := fits_any (n : Int) (S : Int) _ (Kd.C_below HT.out HS.out.below)
              rw [a10] at C
              have C := Aside0.mk C
              go_wp2_with fail
              refine C.out.mono ?_
              clear C
              rintro e wd ⟨rfl, hd⟩
              replace HS := Aside0.mk (HS.out.step hd.below)
              clear hd
              have C := Aside0.mk (awake_any _ (Kd.C_below HT.out HS.out.below))
              go_wp2_with fail
              refine C.out.mono ?_
              clear C
              rintro e w30 ⟨rfl, hb⟩
              replace HS := Aside0.mk (HS.out.step hb)
              clear hb
              go_wp2
              (try rw [Exit.noGoto_ret])
              go_ret
              exact ⟨rfl, HS.out.below⟩
            | false =>
              rw [b1, b2] at a8
              have e2 : n = 2560 := by simpa using a8
              have e3 : ((n : Int) == 2560) = true := by rw [e2]; rfl
              clear e2
              obtain ⟨vs, hs⟩ := HS.out.arr 1 rfl
              have C := Aside0.mk (cap_any hs)
              clear hs vs
              go_wp2_with fail
              refine C.out.mono ?_
              clear C
              rintro e wc ⟨rfl, rfl⟩
              have C := fits_any ((n : Int) + 1) (S : Int) _ (Kd.C_below HT.out HS.out.below)
              rw [b1] at C
              have C := Aside0.mk C
              go_wp2_with fail
              refine C.out.mono ?_
              clear C
              rintro e wd ⟨rfl, hd⟩
              replace HS := Aside0.mk (HS.out.step hd.below)
              clear hd
              obtain ⟨vs, hs⟩ := HS.out.arr 1 rfl
              have C := Aside0.mk (cap_any hs)
              clear hs vs
              go_wp2_with fail
              refine C.out.mono ?_
              clear C
              rintro e wc ⟨rfl, rfl⟩
              have C := fits_any ((n : Int) + 1) (2 * (S : Int)) _ (Kd.C_below HT.out HS.out.below)
              rw [b2] at C
              have C := Aside0.mk C
              go_wp2_with fail
              refine C.out.mono ?_
              clear C
              rintro e wd ⟨rfl, hd⟩
              replace HS := Aside0.mk (HS.out.step hd.below)
              clear hd
              obtain ⟨vs, hs⟩ := HS.out.arr 1 rfl
              have C := Aside0.mk (cap_any hs)
              clear hs vs
              go_wp2_with fail
              refine C.out.mono ?_
              clear C
              rintro e wc ⟨rfl, rfl⟩
              have C := fits_any (n : Int) (S : Int) _ (Kd.C_below HT.out HS.out.below)
              rw [a10] at C
              have C := Aside0.mk C
              go_wp2_with fail
              refine C.out.mono ?_
              clear C
              rintro e wd ⟨rfl, hd⟩
              replace HS := Aside0.mk (HS.out.step hd.below)
              clear hd
              have C := Aside0.mk (awake_any _ (Kd.C_below HT.out HS.out.below))
              go_wp2_with fail
              refine C.out.mono ?_
              clear C
              rintro e w30 ⟨rfl, hb⟩
              replace HS := Aside0.mk (HS.out.step hb)
              clear hb
              go_wp2
              (try rw [Exit.noGoto_ret])
              go_ret
              exact ⟨rfl, HS.out.below⟩
        · have a10 : fitsB n S = false := by rw [a9, ho]; rfl
          rw [ho]
          clear ho a9
          cases b1 : fitsB ((n : Int) + 1) (S : Int) with
          | true =>
            obtain ⟨vs, hs⟩ := HS.out.arr 1 rfl
            have C := Aside0.mk (cap_any hs)
            clear hs vs
            go_wp2_with fail
            refine C.out.mono ?_
            clear C
            rintro e wc ⟨rfl, rfl⟩
            have C := fits_any ((n : Int) + 1) (S : Int) _ (Kd.C_below HT.out HS.out.below)
            rw [b1] at C
            have C := Aside0.mk C
            go_wp2_with fail
            refine C.out.mono ?_
            clear C
            rintro e wd ⟨rfl, hd⟩
            replace HS := Aside0.mk (HS.out.step hd.below)
            clear hd
            obtain ⟨vs, hs⟩ := HS.out.arr 1 rfl
            have C := Aside0.mk (cap_any hs)
            clear hs vs
            go_wp2_with fail
            refine C.out.mono ?_
            clear C
            rintro e wc ⟨rfl, rfl⟩
            have C := fits_any (n : Int) (S : Int) _ (Kd.C_below HT.out HS.out.below)
            rw [a10] at C
            have C := Aside0.mk C
            go_wp2_with fail
            refine C.out.mono ?_
            clear C
            rintro e wd ⟨rfl, hd⟩
            replace HS := Aside0.mk (HS.out.step hd.below)
            clear hd
            have C := Aside0.mk (awake_any _ (Kd.C_below HT.out HS.out.below))
            go_wp2_with fail
            refine C.out.mono ?_
            clear C
            rintro e w30 ⟨rfl, hb⟩
            replace HS := Aside0.mk (HS.out.step hb)
            clear hb
            go_wp2
            (try rw [Exit.noGoto_ret])
            go_ret
            exact ⟨rfl, HS.out.below⟩
          | false =>
            cases b2 : fitsB ((n : Int) + 1) (2 * (S : Int)) with
            | true =>
              obtain ⟨vs, hs⟩ := HS.out.arr 1 rfl
              have C := Aside0.mk (cap_any hs)
              clear hs vs
              go_wp2_with fail
              refine C.out.mono ?_
              clear C
              rintro e wc ⟨rfl, rfl⟩
              have C := fits_any ((n : Int) + 1) (S : Int) _ (Kd.C_below HT.out HS.out.below)
              rw [b1] at C
              have C := Aside0.mk C
              go_wp2_with fail
              refine C.out.mono ?_
              clear C
              rintro e wd ⟨rfl, hd⟩
              replace HS := Aside0.mk (HS.out.step hd.below)
              clear hd
              obtain ⟨vs, hs⟩ := HS.out.arr 1 rfl
              have C := Aside0.mk (cap_any hs)
              clear hs vs
              go_wp2_with fail
              refine C.out.mono ?_
              clear C
              rintro e wc ⟨rfl, rfl⟩
              have C := fits_any ((n : Int) + 1) (2 * (S : Int)) _ (Kd.C_below HT.out HS.out.below)
              rw [b2] at C
              have C := Aside0.mk C
              go_wp2_with fail
              refine C.out.mono ?_
              clear C
              rintro e wd ⟨rfl, hd⟩
              replace HS := Aside0.mk (HS.out.step hd.below)
              clear hd
              obtain ⟨vs, hs⟩ := HS.out.arr 1 rfl
              have C := Aside0.mk (cap_any hs)
              clear hs vs
              go_wp2_with fail
              refine C.out.mono ?_
              clear C
              rintro e wc ⟨rfl, rfl⟩
              have C := fits_any (n : Int) (S : Int) _ (Kd.C_below HT.out HS.out.below)
              rw [a10] at C
              have C := Aside0.mk C
              go_wp2_with fail
              refine C.out.mono ?_
              clear C
              rintro e wd ⟨rfl, hd⟩
              replace HS := Aside0.mk (HS.out.step hd.below)
              clear hd
              have C := Aside0.mk (awake_any _ (Kd.C_below HT.out HS.out.below))
              go_wp2_with fail
              refine C.out.mono ?_
              clear C
              rintro e w30 ⟨rfl, hb⟩
              replace HS := Aside0.mk (HS.out.step hb)
              clear hb
              go_wp2
              (try rw [Exit.noGoto_ret])
              go_ret
              exact ⟨rfl, HS.out.below⟩
            | false =>
              by_cases e2 : n = 2560
              · have e3 : ((n : Int) == 2560) = true := by rw [e2]; rfl
                clear e2
                obtain ⟨vs, hs⟩ := HS.out.arr 1 rfl
                have C := Aside0.mk (cap_any hs)
                clear hs vs
                go_wp2_with fail
                refine C.out.mono ?_
                clear C
                rintro e wc ⟨rfl, rfl⟩
                have C := fits_any ((n : Int) + 1) (S : Int) _ (Kd.C_below HT.out HS.out.below)
                rw [b1] at C
                have C := Aside0.mk C
                go_wp2_with fail
                refine C.out.mono ?_
                clear C
                rintro e wd ⟨rfl, hd⟩
                replace HS := Aside0.mk (HS.out.step hd.below)
                clear hd
                obtain ⟨vs, hs⟩ := HS.out.arr 1 rfl
                have C := Aside0.mk (cap_any hs)
                clear hs vs
                go_wp2_with fail
                refine C.out.mono ?_
                clear C
                rintro e wc ⟨rfl, rfl⟩
                have C := fits_any ((n : Int) + 1) (2 * (S : Int)) _ (Kd.C_below HT.out HS.out.below)
                rw [b2] at C
                have C := Aside0.mk C
                go_wp2_with fail
                refine C.out.mono ?_
                clear C
                rintro e wd ⟨rfl, hd⟩
                replace HS := Aside0.mk (HS.out.step hd.below)
                clear hd
                obtain ⟨vs, hs⟩ := HS.out.arr 1 rfl
                have C := Aside0.mk (cap_any hs)
                clear hs vs
                go_wp2_with fail
                refine C.out.mono ?_
                clear C
                rintro e wc ⟨rfl, rfl⟩
                have C := fits_any (n : Int) (S : Int) _ (Kd.C_below HT.out HS.out.below)
                rw [a10] at C
                have C := Aside0.mk C
                go_wp2_with fail
                refine C.out.mono ?_
                clear C
                rintro e wd ⟨rfl, hd⟩
                replace HS := Aside0.mk (HS.out.step hd.below)
                clear hd
                have C := Aside0.mk (awake_any _ (Kd.C_below HT.out HS.out.below))
                go_wp2_with fail
                refine C.out.mono ?_
                clear C
                rintro e w30 ⟨rfl, hb⟩
                replace HS := Aside0.mk (HS.out.step hb)
                clear hb
                go_wp2
                (try rw [Exit.noGoto_ret])
                go_ret
                exact ⟨rfl, HS.out.below⟩
              · have e3 : ((n : Int) == 2560) = false := beq_eq_false_iff_ne.2 (by omega)
                obtain ⟨vs, hs⟩ := HS.out.arr 1 rfl
                have C := Aside0.mk (cap_any hs)
                clear hs vs
                go_wp2_with fail
                refine C.out.mono ?_
                clear C
                rintro e wc ⟨rfl, rfl⟩
                have C := fits_any ((n : Int) + 1) (S : Int) _ (Kd.C_below HT.out HS.out.below)
                rw [b1] at C
                have C := Aside0.mk C
                go_wp2_with fail
                refine C.out.mono ?_
                clear C
                rintro e wd ⟨rfl, hd⟩
                replace HS := Aside0.mk (HS.out.step hd.below)
                clear hd
                obtain ⟨vs, hs⟩ := HS.out.arr 1 rfl
                have C := Aside0.mk (cap_any hs)
                clear hs vs
                go_wp2_with fail
                refine C.out.mono ?_
                clear C
                rintro e wc ⟨rfl, rfl⟩
                have C := fits_any ((n : Int) + 1) (2 * (S : Int)) _ (Kd.C_below HT.out HS.out.below)
                rw [b2] at C
                have C := Aside0.mk C
                go_wp2_with fail
                refine C.out.mono ?_
                clear C
                rintro e wd ⟨rfl, hd⟩
                replace HS := Aside0.mk (HS.out.step hd.below)
                clear hd
                obtain ⟨vs, hs⟩ := HS.out.arr 1 rfl
                have C := Aside0.mk (cap_any hs)
                clear hs vs
                go_wp2_with fail
                refine C.out.mono ?_
                clear C
                rintro e wc ⟨rfl, rfl⟩
                have C := fits_any (n : Int) (S : Int) _ (Kd.C_below HT.out HS.out.below)
                rw [a10] at C
                have C := Aside0.mk C
                go_wp2_with fail
                refine C.out.mono ?_
                clear C
                rintro e wd ⟨rfl, hd⟩
                replace HS := Aside0.mk (HS.out.step hd.below)
                clear hd
                have C := Aside0.mk (awake_any _ (Kd.C_below HT.out HS.out.below))
                go_wp2_with fail
                refine C.out.mono ?_
                clear C
                rintro e w30 ⟨rfl, hb⟩
                replace HS := Aside0.mk (HS.out.step hb)
                clear hb
                go_wp2
                (try rw [Exit.noGoto_ret])
                go_ret
                exact ⟨rfl, HS.out.below⟩
theorem law (n : Int) (wn : (Lit.int .i64 n).wf = true) (W : World) (hT : Tb W) : Calls Tryd.prog 10 #[.int .i64 n] W fun e w' => e = .returned (.bool true) ∧ Below W.heap.size W w' := by
  by_cases h : n < 0 ∨ 2600 < n
  · exact law_out hT h
  · obtain ⟨n, rfl⟩ := Int.eq_ofNat_of_zero_le (show 0 ≤ n by omega)
    by_cases h1 : n ≤ 2560
    · exact law_good hT h1
    · exact law_full hT (by omega) (by omega)
end
end Go.Proofs.YtofkkdjbilklcaaDoor.YL
