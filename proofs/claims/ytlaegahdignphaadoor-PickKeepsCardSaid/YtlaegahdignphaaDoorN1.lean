/- Counts behind a step: After walked, where the array grows, shrinks, or the step is none. -/
import Derived.Test.YtlaegahdignphaaDoorM9
namespace Go.Proofs.YtlaegahdignphaaDoor.N1
open Go.RowKit Go.Shelf Go.Proofs.YtlaegahdignphaaDoorW.PrintWords Go.Proofs.YtlaegahdignphaaDoorW.PrintLast Go.Proofs.YtlaegahdignphaaDoorW.PrintMore Q1 Q2 L1 L3 S1 M1 M2 M3 M4 M7 M8 M9 SL SG
set_option linter.unusedVariables false
set_option linter.unusedSimpArgs false
theorem own_blk {w : World} {b : Nat} {xs : List Int} {n : Nat} (h : w.heap[b]? = some (.cells (nums .i64 xs).toArray 3 (0, 0))) (hn : xs.length = n) (hl : n ≤ 1000000) : w.ownsRow 0 3 1 (.slice (some ⟨b, 0, none⟩) n n) xs.length (nums .i64 xs) := by
  subst hn
  exact ⟨by simp [nums], .inr ⟨b, xs.length, (nums .i64 xs).toArray, rfl, Nat.zero_le _, h, Nat.le_refl _, by simp only [maxLen]; omega, by simp [nums], by rw [List.take_of_length_le (by simp [nums])]⟩⟩
theorem shrL_len (n s : Nat) : (shrL n s).length = s := by simp [shrL]
theorem sep_own {w w' : World} {b n s : Nat} (hs : s ≤ 512) (h : Sep w w' [Blk b (nums .i64 (shrL n s)).toArray 3]) : Sep w w' [S1.Own (.slice (some ⟨b, 0, none⟩) s s) (shrL n s)] :=
  h.turn 0 rfl (S := fun _ => False) (Only.refl _ _) (fun k hk => hk.elim) (S1.Own (.slice (some ⟨b, 0, none⟩) s s) (shrL n s)) (own_blk (h.blk 0 rfl) (shrL_len n s) (by omega)) (fun k hk => .inl (by simpa [S1.Own, Value.ownBlock, Blk] using hk))
/-- A step that is none. -/
theorem after_no1 {w : World} {A : Option Addr} {c : Nat} {l : List Int} (hr : Kd.C (Kd.int .i64) w A l.length l) (h : ckE l = 0) (hl : l.length ≤ 512) {m : Nat} (hm : l.length = 2 * m) {K F S C : Int} (q1 : (K == 1) = false)
    (gA : eqB (K, F, S, C) (0, 0, 0, 8 * (l.length : Int)) = false) (gG : eqB (K, F, S, C) (2, 0, 2 * (l.length : Int), 2 * (8 * (l.length : Int))) = false) (gD : eqB (K, F, S, C) (3, 0, (m : Int), 4 * (l.length : Int)) = false) :
    Calls Tryd.prog 40 #[.slice A l.length c, .agg #[.int .i64 K, .int .i64 F, .int .i64 S, .int .i64 C]] w fun e w' => e = .returned (.tuple #[.slice none 0 0, .int .i64 1]) ∧ Below w.heap.size w w' := by
  have e1 : ((l.length : Int)).tdiv 2 = m := by rw [Int.tdiv_eq_ediv_of_nonneg (by omega)]; omega
  have e2 : (8 * (l.length : Int)).tdiv 2 = 4 * (l.length : Int) := by rw [Int.tdiv_eq_ediv_of_nonneg (by omega)]; omega
  have hm2 : m ≤ 256 := by omega
  have hs0 := (Sep.nil w).new_blk #[.int .i64 K, .int .i64 F, .int .i64 S, .int .i64 C] 41
  have HS := Aside0.mk hs0
  have HR := Aside0.mk hr
  have CK := Aside0.mk (check_any (c := c) (Kd.C_below hr hs0.below))
  have heq := fun w => eqS w
  have hgd := guardS
  clear hr hs0
  rw [h] at CK
  clear h hm
  go_enter Tryd.func40, Tryd.ntmps40
  go_wp2_with fail
  refine CK.out.mono ?_
  clear CK
  rintro e w1 ⟨rfl, hd⟩
  replace HS := Aside0.mk (HS.out.step hd.below)
  clear hd
  have c0 : (_ : Option Value) = some (.int .i64 K) := (blk_cell (HS.out.blk 0 rfl) 0).trans rfl
  have c1 : (_ : Option Value) = some (.int .i64 F) := (blk_cell (HS.out.blk 0 rfl) 1).trans rfl
  have c2 : (_ : Option Value) = some (.int .i64 S) := (blk_cell (HS.out.blk 0 rfl) 2).trans rfl
  have c3 : (_ : Option Value) = some (.int .i64 C) := (blk_cell (HS.out.blk 0 rfl) 3).trans rfl
  go_wp2
  go_ret2
  exact ⟨rfl, HS.out.below⟩
theorem after_no2 {w : World} {A : Option Addr} {c : Nat} {l : List Int} (hr : Kd.C (Kd.int .i64) w A l.length l) (h : ckE l = 0) (hl : l.length ≤ 512) {m : Nat} (hm : l.length = 2 * m) {F S C : Int} (q1 : (C == 8 * (l.length : Int)) = false) :
    Calls Tryd.prog 40 #[.slice A l.length c, .agg #[.int .i64 1, .int .i64 F, .int .i64 S, .int .i64 C]] w fun e w' => e = .returned (.tuple #[.slice none 0 0, .int .i64 1]) ∧ Below w.heap.size w w' := by
  have e1 : ((l.length : Int)).tdiv 2 = m := by rw [Int.tdiv_eq_ediv_of_nonneg (by omega)]; omega
  have e2 : (8 * (l.length : Int)).tdiv 2 = 4 * (l.length : Int) := by rw [Int.tdiv_eq_ediv_of_nonneg (by omega)]; omega
  have hm2 : m ≤ 256 := by omega
  have gA : eqB (1, F, S, C) (0, 0, 0, 8 * (l.length : Int)) = false := decide_eq_false (by simp)
  have gG : eqB (1, F, S, C) (2, 0, 2 * (l.length : Int), 2 * (8 * (l.length : Int))) = false := decide_eq_false (by simp)
  have gD : eqB (1, F, S, C) (3, 0, (m : Int), 4 * (l.length : Int)) = false := decide_eq_false (by simp)
  have hs0 := (Sep.nil w).new_blk #[.int .i64 1, .int .i64 F, .int .i64 S, .int .i64 C] 41
  have HS := Aside0.mk hs0
  have HR := Aside0.mk hr
  have CK := Aside0.mk (check_any (c := c) (Kd.C_below hr hs0.below))
  have heq := fun w => eqS w
  have hgd := guardS
  clear hr hs0
  rw [h] at CK
  clear h hm
  go_enter Tryd.func40, Tryd.ntmps40
  go_wp2_with fail
  refine CK.out.mono ?_
  clear CK
  rintro e w1 ⟨rfl, hd⟩
  replace HS := Aside0.mk (HS.out.step hd.below)
  clear hd
  have c0 : (_ : Option Value) = some (.int .i64 1) := (blk_cell (HS.out.blk 0 rfl) 0).trans rfl
  have c1 : (_ : Option Value) = some (.int .i64 F) := (blk_cell (HS.out.blk 0 rfl) 1).trans rfl
  have c2 : (_ : Option Value) = some (.int .i64 S) := (blk_cell (HS.out.blk 0 rfl) 2).trans rfl
  have c3 : (_ : Option Value) = some (.int .i64 C) := (blk_cell (HS.out.blk 0 rfl) 3).trans rfl
  go_wp2
  go_ret2
  exact ⟨rfl, HS.out.below⟩
theorem after_no3 {w : World} {A : Option Addr} {c : Nat} {l : List Int} (hr : Kd.C (Kd.int .i64) w A l.length l) (h : ckE l = 0) (hl : l.length ≤ 512) {m : Nat} (hm : l.length = 2 * m) {F S : Int} (hw : winOkB l.length F S = false) :
    Calls Tryd.prog 40 #[.slice A l.length c, .agg #[.int .i64 1, .int .i64 F, .int .i64 S, .int .i64 (8 * (l.length : Int))]] w fun e w' => e = .returned (.tuple #[.slice none 0 0, .int .i64 1]) ∧ Below w.heap.size w w' := by
  have e1 : ((l.length : Int)).tdiv 2 = m := by rw [Int.tdiv_eq_ediv_of_nonneg (by omega)]; omega
  have e2 : (8 * (l.length : Int)).tdiv 2 = 4 * (l.length : Int) := by rw [Int.tdiv_eq_ediv_of_nonneg (by omega)]; omega
  have hm2 : m ≤ 256 := by omega
  have gA : eqB (1, F, S, 8 * (l.length : Int)) (0, 0, 0, 8 * (l.length : Int)) = false := decide_eq_false (by simp)
  have gG : eqB (1, F, S, 8 * (l.length : Int)) (2, 0, 2 * (l.length : Int), 2 * (8 * (l.length : Int))) = false := decide_eq_false (by simp)
  have gD : eqB (1, F, S, 8 * (l.length : Int)) (3, 0, (m : Int), 4 * (l.length : Int)) = false := decide_eq_false (by simp)
  have CM := Aside0.mk (fun w => mayw_any 1 F S (8 * (l.length : Int)) l.length hl w)
  rw [hw] at CM
  have hs0 := (Sep.nil w).new_blk #[.int .i64 1, .int .i64 F, .int .i64 S, .int .i64 (8 * (l.length : Int))] 41
  have HS := Aside0.mk hs0
  have HR := Aside0.mk hr
  have CK := Aside0.mk (check_any (c := c) (Kd.C_below hr hs0.below))
  have heq := fun w => eqS w
  have hgd := guardS
  clear hr hs0
  rw [h] at CK
  clear h hm hw
  go_enter Tryd.func40, Tryd.ntmps40
  go_wp2_with fail
  refine CK.out.mono ?_
  clear CK
  rintro e w1 ⟨rfl, hd⟩
  replace HS := Aside0.mk (HS.out.step hd.below)
  clear hd
  have c0 : (_ : Option Value) = some (.int .i64 1) := (blk_cell (HS.out.blk 0 rfl) 0).trans rfl
  have c1 : (_ : Option Value) = some (.int .i64 F) := (blk_cell (HS.out.blk 0 rfl) 1).trans rfl
  have c2 : (_ : Option Value) = some (.int .i64 S) := (blk_cell (HS.out.blk 0 rfl) 2).trans rfl
  have c3 : (_ : Option Value) = some (.int .i64 (8 * (l.length : Int))) := (blk_cell (HS.out.blk 0 rfl) 3).trans rfl
  go_wp2_with fail
  refine (CM.out _).mono ?_
  clear CM c0 c1 c2 c3
  rintro e w2 ⟨rfl, hb⟩
  replace HS := Aside0.mk (HS.out.step hb)
  clear hb
  have c0 : (_ : Option Value) = some (.int .i64 1) := (blk_cell (HS.out.blk 0 rfl) 0).trans rfl
  have c1 : (_ : Option Value) = some (.int .i64 F) := (blk_cell (HS.out.blk 0 rfl) 1).trans rfl
  have c2 : (_ : Option Value) = some (.int .i64 S) := (blk_cell (HS.out.blk 0 rfl) 2).trans rfl
  have c3 : (_ : Option Value) = some (.int .i64 (8 * (l.length : Int))) := (blk_cell (HS.out.blk 0 rfl) 3).trans rfl
  go_wp2
  go_ret2
  exact ⟨rfl, HS.out.below⟩
set_option maxHeartbeats 4000000 in
/-- The array grows. -/
theorem after_grow {w : World} {A : Option Addr} {c : Nat} {l : List Int} (hr : Kd.C (Kd.int .i64) w A l.length l) (hlc : l.length ≤ c) (h : ckE l = 0) (hg : goodL l) (hl : l.length ≤ 256) (h1 : 1 ≤ l.length) (hc : capB (16 * (l.length : Int)) = true) :
    Calls Tryd.prog 40 #[.slice A l.length c, .agg #[.int .i64 2, .int .i64 0, .int .i64 (2 * (l.length : Int)), .int .i64 (16 * (l.length : Int))]] w fun e w' => ∃ A' c', e = .returned (.tuple #[.slice A' (2 * l.length : Nat) c', .int .i64 0]) ∧ Sep w w' [S1.Own (.slice A' (2 * l.length : Nat) c') (shrL l.sum.toNat (2 * l.length))] := by
  have hb := good_sum hg
  have gA : eqB (2, 0, 2 * (l.length : Int), 16 * (l.length : Int)) (0, 0, 0, 8 * (l.length : Int)) = false := decide_eq_false (by simp)
  have e2 : 2 * (8 * (l.length : Int)) = 16 * (l.length : Int) := by omega
  have gG : eqB (2, 0, 2 * (l.length : Int), 16 * (l.length : Int)) (2, 0, 2 * (l.length : Int), 16 * (l.length : Int)) = true := decide_eq_true rfl
  have CM := Aside0.mk (fun w => L1.may_any (16 * (l.length : Int)) w)
  rw [hc] at CM
  have CH : Aside0 (∀ w, Calls Tryd.prog 63 #[.int .i64 l.sum, .int .i64 (2 * (l.length : Int))] w fun e w' => ∃ rb, e = .returned (.tuple #[.slice (some ⟨rb, 0, none⟩) (2 * l.length) (2 * l.length), .int .i64 0]) ∧ Sep w w' [Blk rb (nums .i64 (shrL l.sum.toNat (2 * l.length))).toArray 3]) := ⟨fun w => by
    have := shares_yes (n := l.sum.toNat) (s := 2 * l.length) (by omega) (by omega) (by omega) w
    rw [show ((l.sum.toNat : Nat) : Int) = l.sum by omega, show ((2 * l.length : Nat) : Int) = 2 * (l.length : Int) by omega] at this
    exact this⟩
  have HG := Aside0.mk hg
  have HLC := Aside0.mk hlc
  have hs0 := (Sep.nil w).new_blk #[.int .i64 2, .int .i64 0, .int .i64 (2 * (l.length : Int)), .int .i64 (16 * (l.length : Int))] 41
  have HS := Aside0.mk hs0
  have HR := Aside0.mk hr
  have CK := Aside0.mk (check_any (c := c) (Kd.C_below hr hs0.below))
  have heq := fun w => eqS w
  have hgd := guardS
  clear hr hs0
  rw [h] at CK
  clear h hc hg hlc
  go_enter Tryd.func40, Tryd.ntmps40
  go_wp2_with fail
  refine CK.out.mono ?_
  clear CK
  rintro e w1 ⟨rfl, hd⟩
  replace HS := Aside0.mk (HS.out.step hd.below)
  clear hd
  have c0 : (_ : Option Value) = some (.int .i64 2) := (blk_cell (HS.out.blk 0 rfl) 0).trans rfl
  have c1 : (_ : Option Value) = some (.int .i64 0) := (blk_cell (HS.out.blk 0 rfl) 1).trans rfl
  have c2 : (_ : Option Value) = some (.int .i64 (2 * (l.length : Int))) := (blk_cell (HS.out.blk 0 rfl) 2).trans rfl
  have c3 : (_ : Option Value) = some (.int .i64 (16 * (l.length : Int))) := (blk_cell (HS.out.blk 0 rfl) 3).trans rfl
  go_wp2_with fail
  refine (CM.out _).mono ?_
  clear CM c0 c1 c2 c3
  rintro e w2 ⟨rfl, hd⟩
  replace HS := Aside0.mk (HS.out.step hd.below)
  clear hd
  have c0 : (_ : Option Value) = some (.int .i64 2) := (blk_cell (HS.out.blk 0 rfl) 0).trans rfl
  have c1 : (_ : Option Value) = some (.int .i64 0) := (blk_cell (HS.out.blk 0 rfl) 1).trans rfl
  have c2 : (_ : Option Value) = some (.int .i64 (2 * (l.length : Int))) := (blk_cell (HS.out.blk 0 rfl) 2).trans rfl
  have c3 : (_ : Option Value) = some (.int .i64 (16 * (l.length : Int))) := (blk_cell (HS.out.blk 0 rfl) 3).trans rfl
  have CS := Aside0.mk (sum_any (Kd.C_below (Kd.C_below HR.out HS.out.below) (below_drew (Below.refl _ _))) HLC.out HG.out (by omega))
  go_wp2
  go_region_with (first
    | (go_at_call 57; refine CS.out.mono ?_; rintro e w5 ⟨rfl, hd⟩; have z2 := pw_cell_below hd.below c2; have HD := Aside0.mk hd; clear hd)
    | (go_at_call 63; refine (CH.out _).mono ?_; rintro e w6 ⟨rb, rfl, hs⟩; have HS6 := Aside0.mk hs; clear hs))
  all_goals
    go_wp2
    go_ret2
    refine ⟨_, _, rfl, ?_⟩
    have hS := sep_own (s := 2 * l.length) (by omega) HS6.out
    exact ((((HS.out.step (below_drew (Below.refl _ _))).step HD.out.below).append hS).tail)
set_option maxHeartbeats 4000000 in
/-- The array shrinks. -/
theorem after_shrink {w : World} {A : Option Addr} {c : Nat} {l : List Int} (hr : Kd.C (Kd.int .i64) w A l.length l) (hlc : l.length ≤ c) (h : ckE l = 0) (hg : goodL l) (hl : l.length ≤ 512) {m : Nat} (hm : l.length = 2 * m) (h1 : 1 ≤ m) (hc : capB (4 * (l.length : Int)) = true) (hs : l.sum ≤ 4 * (l.length : Int)) :
    Calls Tryd.prog 40 #[.slice A l.length c, .agg #[.int .i64 3, .int .i64 0, .int .i64 m, .int .i64 (4 * (l.length : Int))]] w fun e w' => ∃ A' c', e = .returned (.tuple #[.slice A' m c', .int .i64 0]) ∧ Sep w w' [S1.Own (.slice A' m c') (shrL l.sum.toNat m)] := by
  have e1 : ((l.length : Int)).tdiv 2 = m := by rw [Int.tdiv_eq_ediv_of_nonneg (by omega)]; omega
  have e2 : (8 * (l.length : Int)).tdiv 2 = 4 * (l.length : Int) := by rw [Int.tdiv_eq_ediv_of_nonneg (by omega)]; omega
  have hb := good_sum hg
  have gA : eqB (3, 0, (m : Int), 4 * (l.length : Int)) (0, 0, 0, 8 * (l.length : Int)) = false := decide_eq_false (by simp)
  have gG : eqB (3, 0, (m : Int), 4 * (l.length : Int)) (2, 0, 2 * (l.length : Int), 2 * (8 * (l.length : Int))) = false := decide_eq_false (by simp)
  have gD : eqB (3, 0, (m : Int), 4 * (l.length : Int)) (3, 0, (m : Int), 4 * (l.length : Int)) = true := decide_eq_true rfl
  have CM := Aside0.mk (fun w => L1.may_any (4 * (l.length : Int)) w)
  rw [hc] at CM
  have CH : Aside0 (∀ w, Calls Tryd.prog 63 #[.int .i64 l.sum, .int .i64 m] w fun e w' => ∃ rb, e = .returned (.tuple #[.slice (some ⟨rb, 0, none⟩) m m, .int .i64 0]) ∧ Sep w w' [Blk rb (nums .i64 (shrL l.sum.toNat m)).toArray 3]) := ⟨fun w => by
    have := shares_yes (n := l.sum.toNat) (s := m) (by omega) (by omega) (by omega) w
    rw [show ((l.sum.toNat : Nat) : Int) = l.sum by omega] at this
    exact this⟩
  have HG := Aside0.mk hg
  have HLC := Aside0.mk hlc
  have hm2 : m ≤ 256 := by omega
  have hs0 := (Sep.nil w).new_blk #[.int .i64 3, .int .i64 0, .int .i64 m, .int .i64 (4 * (l.length : Int))] 41
  have HS := Aside0.mk hs0
  have HR := Aside0.mk hr
  have CK := Aside0.mk (check_any (c := c) (Kd.C_below hr hs0.below))
  have heq := fun w => eqS w
  have hgd := guardS
  clear hr hs0
  rw [h] at CK
  clear h hc hg hlc hs hm
  go_enter Tryd.func40, Tryd.ntmps40
  go_wp2_with fail
  refine CK.out.mono ?_
  clear CK
  rintro e w1 ⟨rfl, hd⟩
  replace HS := Aside0.mk (HS.out.step hd.below)
  clear hd
  have c0 : (_ : Option Value) = some (.int .i64 3) := (blk_cell (HS.out.blk 0 rfl) 0).trans rfl
  have c1 : (_ : Option Value) = some (.int .i64 0) := (blk_cell (HS.out.blk 0 rfl) 1).trans rfl
  have c2 : (_ : Option Value) = some (.int .i64 m) := (blk_cell (HS.out.blk 0 rfl) 2).trans rfl
  have c3 : (_ : Option Value) = some (.int .i64 (4 * (l.length : Int))) := (blk_cell (HS.out.blk 0 rfl) 3).trans rfl
  go_wp2_with fail
  refine (CM.out _).mono ?_
  clear CM c0 c1 c2 c3
  rintro e w2 ⟨rfl, hd⟩
  replace HS := Aside0.mk (HS.out.step hd.below)
  clear hd
  have c0 : (_ : Option Value) = some (.int .i64 3) := (blk_cell (HS.out.blk 0 rfl) 0).trans rfl
  have c1 : (_ : Option Value) = some (.int .i64 0) := (blk_cell (HS.out.blk 0 rfl) 1).trans rfl
  have c2 : (_ : Option Value) = some (.int .i64 m) := (blk_cell (HS.out.blk 0 rfl) 2).trans rfl
  have c3 : (_ : Option Value) = some (.int .i64 (4 * (l.length : Int))) := (blk_cell (HS.out.blk 0 rfl) 3).trans rfl
  have CS := Aside0.mk (sum_any (Kd.C_below (Kd.C_below HR.out HS.out.below) (below_drew (Below.refl _ _))) HLC.out HG.out (by omega))
  go_wp2
  go_region_with (first
    | (go_at_call 57; refine CS.out.mono ?_; rintro e w5 ⟨rfl, hd⟩; have z2 := pw_cell_below hd.below c2; have HD := Aside0.mk hd; clear hd)
    | (go_at_call 63; refine (CH.out _).mono ?_; rintro e w6 ⟨rb, rfl, hs⟩; have HS6 := Aside0.mk hs; clear hs))
  all_goals
    go_wp2
    go_ret2
    refine ⟨_, _, rfl, ?_⟩
    have hS := sep_own (s := m) (by omega) HS6.out
    exact ((((HS.out.step (below_drew (Below.refl _ _))).step HD.out.below).append hS).tail)
set_option maxHeartbeats 4000000 in
/-- Too many to shrink. -/
theorem after_much {w : World} {A : Option Addr} {c : Nat} {l : List Int} (hr : Kd.C (Kd.int .i64) w A l.length l) (hlc : l.length ≤ c) (h : ckE l = 0) (hg : goodL l) (hl : l.length ≤ 512) {m : Nat} (hm : l.length = 2 * m) (h1 : 1 ≤ m) (hc : capB (4 * (l.length : Int)) = true) (hs : 4 * (l.length : Int) < l.sum) :
    Calls Tryd.prog 40 #[.slice A l.length c, .agg #[.int .i64 3, .int .i64 0, .int .i64 m, .int .i64 (4 * (l.length : Int))]] w fun e w' => e = .returned (.tuple #[.slice none 0 0, .int .i64 1]) ∧ Below w.heap.size w w' := by
  have e1 : ((l.length : Int)).tdiv 2 = m := by rw [Int.tdiv_eq_ediv_of_nonneg (by omega)]; omega
  have e2 : (8 * (l.length : Int)).tdiv 2 = 4 * (l.length : Int) := by rw [Int.tdiv_eq_ediv_of_nonneg (by omega)]; omega
  have hb := good_sum hg
  have gA : eqB (3, 0, (m : Int), 4 * (l.length : Int)) (0, 0, 0, 8 * (l.length : Int)) = false := decide_eq_false (by simp)
  have gG : eqB (3, 0, (m : Int), 4 * (l.length : Int)) (2, 0, 2 * (l.length : Int), 2 * (8 * (l.length : Int))) = false := decide_eq_false (by simp)
  have gD : eqB (3, 0, (m : Int), 4 * (l.length : Int)) (3, 0, (m : Int), 4 * (l.length : Int)) = true := decide_eq_true rfl
  have CM := Aside0.mk (fun w => L1.may_any (4 * (l.length : Int)) w)
  rw [hc] at CM
  have CH : Aside0 (∀ w, Calls Tryd.prog 63 #[.int .i64 l.sum, .int .i64 m] w fun e w' => e = .returned (.tuple #[.slice none 0 0, .int .i64 1]) ∧ Below w.heap.size w w') := ⟨fun w => by
    have := shares_no (n := l.sum.toNat) (s := m) (by omega) (by omega) (by omega) w
    rw [show ((l.sum.toNat : Nat) : Int) = l.sum by omega] at this
    exact this⟩
  have HG := Aside0.mk hg
  have HLC := Aside0.mk hlc
  have hm2 : m ≤ 256 := by omega
  have hs0 := (Sep.nil w).new_blk #[.int .i64 3, .int .i64 0, .int .i64 m, .int .i64 (4 * (l.length : Int))] 41
  have HS := Aside0.mk hs0
  have HR := Aside0.mk hr
  have CK := Aside0.mk (check_any (c := c) (Kd.C_below hr hs0.below))
  have heq := fun w => eqS w
  have hgd := guardS
  clear hr hs0
  rw [h] at CK
  clear h hc hg hlc hs hm
  go_enter Tryd.func40, Tryd.ntmps40
  go_wp2_with fail
  refine CK.out.mono ?_
  clear CK
  rintro e w1 ⟨rfl, hd⟩
  replace HS := Aside0.mk (HS.out.step hd.below)
  clear hd
  have c0 : (_ : Option Value) = some (.int .i64 3) := (blk_cell (HS.out.blk 0 rfl) 0).trans rfl
  have c1 : (_ : Option Value) = some (.int .i64 0) := (blk_cell (HS.out.blk 0 rfl) 1).trans rfl
  have c2 : (_ : Option Value) = some (.int .i64 m) := (blk_cell (HS.out.blk 0 rfl) 2).trans rfl
  have c3 : (_ : Option Value) = some (.int .i64 (4 * (l.length : Int))) := (blk_cell (HS.out.blk 0 rfl) 3).trans rfl
  go_wp2_with fail
  refine (CM.out _).mono ?_
  clear CM c0 c1 c2 c3
  rintro e w2 ⟨rfl, hd⟩
  replace HS := Aside0.mk (HS.out.step hd.below)
  clear hd
  have c0 : (_ : Option Value) = some (.int .i64 3) := (blk_cell (HS.out.blk 0 rfl) 0).trans rfl
  have c1 : (_ : Option Value) = some (.int .i64 0) := (blk_cell (HS.out.blk 0 rfl) 1).trans rfl
  have c2 : (_ : Option Value) = some (.int .i64 m) := (blk_cell (HS.out.blk 0 rfl) 2).trans rfl
  have c3 : (_ : Option Value) = some (.int .i64 (4 * (l.length : Int))) := (blk_cell (HS.out.blk 0 rfl) 3).trans rfl
  have CS := Aside0.mk (sum_any (Kd.C_below (Kd.C_below HR.out HS.out.below) (below_drew (Below.refl _ _))) HLC.out HG.out (by omega))
  go_wp2
  go_region_with (first
    | (go_at_call 57; refine CS.out.mono ?_; rintro e w5 ⟨rfl, hd⟩; have z2 := pw_cell_below hd.below c2; have HD := Aside0.mk hd; clear hd)
    | (go_at_call 63; refine (CH.out _).mono ?_; rintro e w6 ⟨rfl, hs⟩; have HS6 := Aside0.mk hs; clear hs))
  all_goals
    go_wp2
    go_ret2
    exact ⟨rfl, (((HS.out.step (below_drew (Below.refl _ _))).step HD.out.below).step HS6.out).below⟩
set_option maxHeartbeats 2000000 in
/-- No such capacity. -/
theorem after_nocap {w : World} {A : Option Addr} {c : Nat} {l : List Int} (hr : Kd.C (Kd.int .i64) w A l.length l) (h : ckE l = 0) (hl : l.length ≤ 512) {m : Nat} (hm : l.length = 2 * m) (hc : capB (16 * (l.length : Int)) = false) :
    Calls Tryd.prog 40 #[.slice A l.length c, .agg #[.int .i64 2, .int .i64 0, .int .i64 (2 * (l.length : Int)), .int .i64 (16 * (l.length : Int))]] w fun e w' => e = .returned (.tuple #[.slice none 0 0, .int .i64 1]) ∧ Below w.heap.size w w' := by
  have e1 : ((l.length : Int)).tdiv 2 = m := by rw [Int.tdiv_eq_ediv_of_nonneg (by omega)]; omega
  have e3 : (8 * (l.length : Int)).tdiv 2 = 4 * (l.length : Int) := by rw [Int.tdiv_eq_ediv_of_nonneg (by omega)]; omega
  have gA : eqB (2, 0, 2 * (l.length : Int), 16 * (l.length : Int)) (0, 0, 0, 8 * (l.length : Int)) = false := decide_eq_false (by simp)
  have e2 : 2 * (8 * (l.length : Int)) = 16 * (l.length : Int) := by omega
  have gG : eqB (2, 0, 2 * (l.length : Int), 16 * (l.length : Int)) (2, 0, 2 * (l.length : Int), 16 * (l.length : Int)) = true := decide_eq_true rfl
  have gD : eqB (2, 0, 2 * (l.length : Int), 16 * (l.length : Int)) (3, 0, (m : Int), 4 * (l.length : Int)) = false := decide_eq_false (by simp)
  have CM := Aside0.mk (fun w => L1.may_any (16 * (l.length : Int)) w)
  rw [hc] at CM
  have hm2 : m ≤ 256 := by omega
  have hs0 := (Sep.nil w).new_blk #[.int .i64 2, .int .i64 0, .int .i64 (2 * (l.length : Int)), .int .i64 (16 * (l.length : Int))] 41
  have HS := Aside0.mk hs0
  have HR := Aside0.mk hr
  have CK := Aside0.mk (check_any (c := c) (Kd.C_below hr hs0.below))
  have heq := fun w => eqS w
  have hgd := guardS
  clear hr hs0
  rw [h] at CK
  clear h hc hm
  go_enter Tryd.func40, Tryd.ntmps40
  go_wp2_with fail
  refine CK.out.mono ?_
  clear CK
  rintro e w1 ⟨rfl, hd⟩
  replace HS := Aside0.mk (HS.out.step hd.below)
  clear hd
  have c0 : (_ : Option Value) = some (.int .i64 2) := (blk_cell (HS.out.blk 0 rfl) 0).trans rfl
  have c1 : (_ : Option Value) = some (.int .i64 0) := (blk_cell (HS.out.blk 0 rfl) 1).trans rfl
  have c2 : (_ : Option Value) = some (.int .i64 (2 * (l.length : Int))) := (blk_cell (HS.out.blk 0 rfl) 2).trans rfl
  have c3 : (_ : Option Value) = some (.int .i64 (16 * (l.length : Int))) := (blk_cell (HS.out.blk 0 rfl) 3).trans rfl
  go_wp2_with fail
  refine (CM.out _).mono ?_
  clear CM c0 c1 c2 c3
  rintro e w2 ⟨rfl, hd⟩
  replace HS := Aside0.mk (HS.out.step hd.below)
  clear hd
  have c0 : (_ : Option Value) = some (.int .i64 2) := (blk_cell (HS.out.blk 0 rfl) 0).trans rfl
  have c1 : (_ : Option Value) = some (.int .i64 0) := (blk_cell (HS.out.blk 0 rfl) 1).trans rfl
  have c2 : (_ : Option Value) = some (.int .i64 (2 * (l.length : Int))) := (blk_cell (HS.out.blk 0 rfl) 2).trans rfl
  have c3 : (_ : Option Value) = some (.int .i64 (16 * (l.length : Int))) := (blk_cell (HS.out.blk 0 rfl) 3).trans rfl
  go_wp2
  go_ret2
  exact ⟨rfl, HS.out.below⟩
set_option maxHeartbeats 2000000 in
theorem after_nocap2 {w : World} {A : Option Addr} {c : Nat} {l : List Int} (hr : Kd.C (Kd.int .i64) w A l.length l) (h : ckE l = 0) (hl : l.length ≤ 512) {m : Nat} (hm : l.length = 2 * m) (hc : capB (4 * (l.length : Int)) = false) :
    Calls Tryd.prog 40 #[.slice A l.length c, .agg #[.int .i64 3, .int .i64 0, .int .i64 m, .int .i64 (4 * (l.length : Int))]] w fun e w' => e = .returned (.tuple #[.slice none 0 0, .int .i64 1]) ∧ Below w.heap.size w w' := by
  have e1 : ((l.length : Int)).tdiv 2 = m := by rw [Int.tdiv_eq_ediv_of_nonneg (by omega)]; omega
  have e3 : (8 * (l.length : Int)).tdiv 2 = 4 * (l.length : Int) := by rw [Int.tdiv_eq_ediv_of_nonneg (by omega)]; omega
  have gA : eqB (3, 0, (m : Int), 4 * (l.length : Int)) (0, 0, 0, 8 * (l.length : Int)) = false := decide_eq_false (by simp)
  have gG : eqB (3, 0, (m : Int), 4 * (l.length : Int)) (2, 0, 2 * (l.length : Int), 2 * (8 * (l.length : Int))) = false := decide_eq_false (by simp)
  have gD : eqB (3, 0, (m : Int), 4 * (l.length : Int)) (3, 0, (m : Int), 4 * (l.length : Int)) = true := decide_eq_true rfl
  have CM := Aside0.mk (fun w => L1.may_any (4 * (l.length : Int)) w)
  rw [hc] at CM
  have hm2 : m ≤ 256 := by omega
  have hs0 := (Sep.nil w).new_blk #[.int .i64 3, .int .i64 0, .int .i64 m, .int .i64 (4 * (l.length : Int))] 41
  have HS := Aside0.mk hs0
  have HR := Aside0.mk hr
  have CK := Aside0.mk (check_any (c := c) (Kd.C_below hr hs0.below))
  have heq := fun w => eqS w
  have hgd := guardS
  clear hr hs0
  rw [h] at CK
  clear h hc hm
  go_enter Tryd.func40, Tryd.ntmps40
  go_wp2_with fail
  refine CK.out.mono ?_
  clear CK
  rintro e w1 ⟨rfl, hd⟩
  replace HS := Aside0.mk (HS.out.step hd.below)
  clear hd
  have c0 : (_ : Option Value) = some (.int .i64 3) := (blk_cell (HS.out.blk 0 rfl) 0).trans rfl
  have c1 : (_ : Option Value) = some (.int .i64 0) := (blk_cell (HS.out.blk 0 rfl) 1).trans rfl
  have c2 : (_ : Option Value) = some (.int .i64 m) := (blk_cell (HS.out.blk 0 rfl) 2).trans rfl
  have c3 : (_ : Option Value) = some (.int .i64 (4 * (l.length : Int))) := (blk_cell (HS.out.blk 0 rfl) 3).trans rfl
  go_wp2_with fail
  refine (CM.out _).mono ?_
  clear CM c0 c1 c2 c3
  rintro e w2 ⟨rfl, hd⟩
  replace HS := Aside0.mk (HS.out.step hd.below)
  clear hd
  have c0 : (_ : Option Value) = some (.int .i64 3) := (blk_cell (HS.out.blk 0 rfl) 0).trans rfl
  have c1 : (_ : Option Value) = some (.int .i64 0) := (blk_cell (HS.out.blk 0 rfl) 1).trans rfl
  have c2 : (_ : Option Value) = some (.int .i64 m) := (blk_cell (HS.out.blk 0 rfl) 2).trans rfl
  have c3 : (_ : Option Value) = some (.int .i64 (4 * (l.length : Int))) := (blk_cell (HS.out.blk 0 rfl) 3).trans rfl
  go_wp2
  go_ret2
  exact ⟨rfl, HS.out.below⟩
end Go.Proofs.YtlaegahdignphaaDoor.N1
