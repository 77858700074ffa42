/- Keys made to rise: the law's helper risen, walked; what it makes, plain. -/
import Derived.Test.YtbjkncgpoengaaaDoorF9
namespace Go.Proofs.YtbjkncgpoengaaaDoor.F10
open Go.RowKit Go.Proofs.YtbjkncgpoengaaaDoorW.PrintWords Go.Proofs.YtbjkncgpoengaaaDoorW.PrintLast Go.Proofs.YtbjkncgpoengaaaDoorW.PrintMore G1 G0 Q1 G2 G3 G4 G5 G6 G7 G8 G9 G10 G11 F1 F2 S1 F4 F5 F7 F8 F9
set_option linter.unusedVariables false
set_option linter.unusedSimpArgs false

/-- The last key made, behind so many slots. -/
def lastR (g : Gap) : Nat → Int
  | 0 => -500
  | i + 1 => if g.on i then lastR g i + Int.tmod (g.xs.getD i 0) 50 % 50 + 1 else lastR g i
def tR (n : Nat) (g : Gap) : Nat → Gap
  | 0 => gap0 n
  | i + 1 => if g.on i then putS n (tR n g i) i (lastR g (i + 1)) else tR n g i
def lR (n : Nat) (g : Gap) : Nat → List S60
  | 0 => slots n g
  | i + 1 => if g.on i then (lR n g i).set i ⟨true, lastR g (i + 1)⟩ else lR n g i
theorem lastR_bd (g : Gap) : ∀ i, -500 ≤ lastR g i ∧ lastR g i ≤ -500 + 50 * i := by
  intro i
  induction i with
  | zero => exact ⟨by simp [lastR], by simp [lastR]⟩
  | succ i ih =>
    simp only [lastR]
    split <;> omega
theorem lastR_le (g : Gap) (i : Nat) : ∀ d, lastR g i ≤ lastR g (i + d) := by
  intro d
  induction d with
  | zero => exact Int.le_refl _
  | succ d ih =>
    rw [← Nat.add_assoc]
    simp only [lastR]
    split <;> omega
theorem lastR_lt {g : Gap} {i j : Nat} (h : i < j) (hj : g.on j = true) : lastR g (i + 1) < lastR g (j + 1) := by
  have h1 := lastR_le g (i + 1) (j - (i + 1))
  rw [show i + 1 + (j - (i + 1)) = j by omega] at h1
  have h2 : lastR g (j + 1) = lastR g j + Int.tmod (g.xs.getD j 0) 50 % 50 + 1 := by simp [lastR, hj]
  omega
theorem tR_is {n : Nat} {g : Gap} : ∀ i, i ≤ n → (tR n g i).xs.length = n ∧ (∀ j, (tR n g i).on j = (g.on j && decide (j < i))) ∧ ∀ j, j < n → (tR n g i).xs.getD j 0 = if g.on j && decide (j < i) then lastR g (j + 1) else 0 := by
  intro i
  induction i with
  | zero =>
    intro _
    refine ⟨by simp [tR, gap0], fun j => by simp [tR, gap0], fun j hj => ?_⟩
    rw [List.getD_eq_getElem?_getD]
    simp [tR, gap0, List.getElem?_replicate, hj]
  | succ i ih =>
    intro h
    obtain ⟨h1, h2, h3⟩ := ih (by omega)
    cases hf : g.on i with
    | false =>
      rw [show tR n g (i + 1) = tR n g i by simp [tR, hf]]
      have e : ∀ j, (g.on j && decide (j < i + 1)) = (g.on j && decide (j < i)) := by
        intro j
        by_cases c : j = i
        · subst c; rw [hf]; rfl
        · rw [show decide (j < i + 1) = decide (j < i) by by_cases c2 : j < i <;> simp [c2] <;> omega]
      exact ⟨h1, fun j => by rw [e, h2], fun j hj => by rw [e, h3 j hj]⟩
    | true =>
      have hoff : (tR n g i).on i = false := by rw [h2]; simp
      have e0 : tR n g (i + 1) = ⟨upd (tR n g i).on i true, (tR n g i).xs.set i (lastR g (i + 1))⟩ := by
        rw [tR, hf, if_pos rfl]
        unfold putS
        rw [if_pos (putR_off (by omega) hoff), Int.toNat_natCast]
      rw [e0]
      refine ⟨by rw [List.length_set]; exact h1, fun j => ?_, fun j hj => ?_⟩
      · by_cases c : j = i
        · subst c; simp [upd, hf]
        · simp only [upd, if_neg c, h2]
          rw [show decide (j < i + 1) = decide (j < i) by by_cases c2 : j < i <;> simp [c2] <;> omega]
      · by_cases c : j = i
        · subst c
          rw [List.getD_eq_getElem?_getD, List.getElem?_set_self (by omega)]
          simp [hf]
        · rw [List.getD_eq_getElem?_getD, List.getElem?_set_ne (Ne.symm c), ← List.getD_eq_getElem?_getD, h3 j hj, show decide (j < i + 1) = decide (j < i) by by_cases c2 : j < i <;> simp [c2] <;> omega]
theorem lR_is {n : Nat} {g : Gap} : ∀ i, i ≤ n → (lR n g i).length = n ∧ ∀ j, j < n → (lR n g i).getD j z60 = ⟨g.on j, if g.on j && decide (j < i) then lastR g (j + 1) else g.xs.getD j 0⟩ := by
  intro i
  induction i with
  | zero =>
    intro _
    refine ⟨slots_length _ _, fun j hj => ?_⟩
    rw [lR, slots_get n g hj]
    simp
  | succ i ih =>
    intro h
    obtain ⟨h1, h3⟩ := ih (by omega)
    cases hf : g.on i with
    | false =>
      rw [show lR n g (i + 1) = lR n g i by simp [lR, hf]]
      have e : ∀ j, (g.on j && decide (j < i + 1)) = (g.on j && decide (j < i)) := by
        intro j
        by_cases c : j = i
        · subst c; rw [hf]; rfl
        · rw [show decide (j < i + 1) = decide (j < i) by by_cases c2 : j < i <;> simp [c2] <;> omega]
      exact ⟨h1, fun j hj => by rw [e, h3 j hj]⟩
    | true =>
      rw [show lR n g (i + 1) = (lR n g i).set i ⟨true, lastR g (i + 1)⟩ by simp [lR, hf]]
      refine ⟨by rw [List.length_set]; exact h1, fun j hj => ?_⟩
      by_cases c : j = i
      · subst c
        rw [List.getD_eq_getElem?_getD, List.getElem?_set_self (by omega)]
        simp [hf]
      · rw [List.getD_eq_getElem?_getD, List.getElem?_set_ne (Ne.symm c), ← List.getD_eq_getElem?_getD, h3 j hj, show decide (j < i + 1) = decide (j < i) by by_cases c2 : j < i <;> simp [c2] <;> omega]
/-- The array that rises. -/
def rise (n : Nat) (g : Gap) : Gap := tR n g n
theorem rise_slots {n : Nat} {g : Gap} (hc : F9.Clean g) : lR n g n = slots n (rise n g) := by
  obtain ⟨h1, h2⟩ := lR_is (g := g) n (Nat.le_refl n)
  obtain ⟨h3, h4, h5⟩ := tR_is (g := g) n (Nat.le_refl n)
  refine slots_ext h1 fun j hj => ?_
  rw [h2 j hj, show (rise n g).on j = _ from h4 j, show (rise n g).xs.getD j 0 = _ from h5 j hj]
  simp only [hj, decide_true, Bool.and_true]
  cases hf : g.on j with
  | true => rfl
  | false => rw [hc j hf]
theorem rise_len (n : Nat) (g : Gap) : (rise n g).xs.length = n := (tR_is (g := g) n (Nat.le_refl n)).1
theorem rise_clean (n : Nat) (g : Gap) : ∀ j, j < n → (rise n g).on j = false → (rise n g).xs.getD j 0 = 0 := by
  intro j hj hf
  obtain ⟨h3, h4, h5⟩ := tR_is (g := g) n (Nat.le_refl n)
  rw [show (rise n g).xs.getD j 0 = _ from h5 j hj]
  rw [show (rise n g).on j = _ from h4 j] at hf
  rw [hf]
  rfl
/-- It rises. -/
def Rises (n : Nat) (g : Gap) : Prop := ∀ i j, i < j → j < n → g.on i = true → g.on j = true → g.xs.getD i 0 < g.xs.getD j 0
theorem rise_rises (n : Nat) (g : Gap) : Rises n (rise n g) := by
  intro i j hij hj hi hf
  obtain ⟨h3, h4, h5⟩ := tR_is (g := g) n (Nat.le_refl n)
  rw [show (rise n g).xs.getD i 0 = _ from h5 i (by omega), show (rise n g).xs.getD j 0 = _ from h5 j hj]
  rw [show (rise n g).on i = _ from h4 i] at hi
  rw [show (rise n g).on j = _ from h4 j] at hf
  rw [hi, hf, if_pos rfl, if_pos rfl]
  simp only [Bool.and_eq_true] at hf
  exact lastR_lt hij hf.1
theorem risen_no (n : Int) (A : Option Addr) (c : Nat) (l : List Ky) (w : World) (h : n < 1 ∨ 5000 < n ∨ 300 < l.length) :
    Calls Tryd.prog 44 #[.agg #[.int .i64 n, .slice A l.length c]] w fun e w' => e = .returned (.tuple #[.pointer none, .slice none 0 0]) ∧ Below w.heap.size w w' := by
  have HB := Aside0.mk (below_alloc (Below.refl w.heap.size w) (.cells #[.int .i64 n, .slice A l.length c] 63))
  have C := Aside0.mk (made_no n A c l (w.alloc (.cells #[.int .i64 n, .slice A l.length c] 63)) h)
  clear h
  go_enter Tryd.func44, Tryd.ntmps44
  go_wp2_with fail
  refine C.out.mono ?_
  rintro e w1 ⟨rfl, hw⟩
  replace HB := Aside0.mk (below_step HB.out hw)
  clear hw
  go_wp2
  go_ret2
  exact ⟨rfl, HB.out⟩
theorem sep_swap {w0 w : World} {a b : Ob} (h : Sep w0 w [a, b]) : Sep w0 w [b, a] :=
  ⟨h.below, fun o ho => h.ok o (by simp at ho ⊢; exact ho.symm), fun o ho => h.lo o (by simp at ho ⊢; exact ho.symm), by
    have := h.ap
    simp only [List.pairwise_cons, List.mem_cons, List.not_mem_nil, or_false, forall_eq] at this ⊢
    exact ⟨fun k hk hk2 => this.1 k hk2 hk, by simp⟩⟩
theorem tmod50 (x : Int) : -50 < Int.tmod x 50 ∧ Int.tmod x 50 < 50 := by
  have h1 := Int.tmod_lt_of_pos x (show (0 : Int) < 50 by decide)
  have h2 : -50 < Int.tmod x 50 := by
    have := Int.tmod_lt_of_pos (-x) (show (0 : Int) < 50 by decide)
    rw [Int.neg_tmod] at this
    omega
  exact ⟨h2, h1⟩
set_option maxHeartbeats 1000000 in
theorem risen_yes (n : Nat) (A : Option Addr) (c : Nat) (l : List Ky) (w : World) (hr : Kd.C kKey w A l.length l) (h1 : 1 ≤ n) (h2 : n ≤ 5000) (h3 : l.length ≤ 300) :
    Calls Tryd.prog 44 #[.agg #[.int .i64 n, .slice A l.length c]] w fun e w' => Two w w' n (rise n (layS n l)) (slots n (rise n (layS n l))) e := by
  have hs0 := (Sep.nil w).new_blk #[.int .i64 n, .slice A l.length c] 63
  have HS := Aside0.mk hs0
  have C := Aside0.mk (made_yes n A c l _ (Kd.C_below hr hs0.below) h1 h2 h3)
  have CL := Aside0.mk (rise_slots (n := n) (clean_lay n l))
  clear hr hs0
  go_enter Tryd.func44, Tryd.ntmps44
  go_wp2_with fail
  refine C.out.mono ?_
  clear C
  rintro e w1 ⟨p0, sb0, ob0, wb0, lb, rfl, hS⟩
  obtain ⟨g, hg⟩ : ∃ g, g = layS n l := ⟨_, rfl⟩
  rw [← hg] at hS CL
  have HG := Aside0.mk hg
  clear hg
  replace HS := Aside0.mk (HS.out.append hS)
  clear hS
  have t0 : (_ : Option Value) = some (.int .i64 n) := (blk_cell (HS.out.blk 0 rfl) 0).trans rfl
  go_wp2_with fail
  refine (gnew_yes n _ h1 (by omega)).mono ?_
  clear t0
  rintro e w2 ⟨p, sb, ob, wb, rfl, hb4, hS, hB⟩
  replace HS : Aside0 (Sep w w2 [Blk w.heap.size #[.int .i64 n, .slice A l.length c] 63, Arr p0 sb0 ob0 wb0 n g, SlB lb (lR n g 0), Arr p sb ob wb n (tR n g 0)]) := ⟨HS.out.new_arr (s := gap0 n) hB ⟨_, hS⟩ hb4⟩
  clear hb4 hS hB
  go_wp2
  go_loopg [8, 9] n (fun kq v8 v9 w' => ∃ i : Nat, v8 = .int .i64 (lastR g i) ∧ v9 = .int .i64 i ∧ i ≤ n ∧ Aside0 (n - i ≤ kq) ∧ Aside0 (Sep w w' [Blk w.heap.size #[.int .i64 n, .slice A l.length c] 63, Arr p0 sb0 ob0 wb0 n g, SlB lb (lR n g i), Arr p sb ob wb n (tR n g i)]))
  case atStart => exact ⟨0, rfl, rfl, by omega, ⟨by omega⟩, HS⟩
  case round =>
    clear HS
    obtain ⟨i, rfl, rfl, hi, HQ, HS⟩ := hrel
    by_cases hlt : i < n
    · obtain ⟨gk, rfl⟩ : ∃ m, gk = m + 1 := ⟨gk - 1, by have := HQ.out; omega⟩
      obtain ⟨L1, L2⟩ := lR_is (g := g) i (by omega)
      have hc := slb_cell (HS.out.slb 2 rfl) (i := i) (by rw [L1]; exact hlt)
      rw [L2 i hlt] at hc
      simp only [show decide (i < i) = false by simp, Bool.and_false, Bool.false_eq_true, if_false] at hc
      have s0 := hc.1
      have s1 := hc.2
      have f1 := blk_frozen (HS.out.slb 2 rfl) (i * 2 + 1)
      have LD := Aside0.mk (L2 i hlt)
      have TD := Aside0.mk ((tR_is (g := g) i (by omega)).2.1 i)
      have bd := lastR_bd g i
      have tb := tmod50 (g.xs.getD i 0)
      have LN := Aside0.mk (show lastR g (i + 1) = if g.on i then lastR g i + Int.tmod (g.xs.getD i 0) 50 % 50 + 1 else lastR g i from rfl)
      have TN := Aside0.mk (show tR n g (i + 1) = if g.on i then putS n (tR n g i) i (lastR g (i + 1)) else tR n g i from rfl)
      have RN := Aside0.mk (show lR n g (i + 1) = if g.on i then (lR n g i).set i ⟨true, lastR g (i + 1)⟩ else lR n g i from rfl)
      clear hc L1 L2
      obtain ⟨b1, b2⟩ := bd
      obtain ⟨b3, b4⟩ := tb
      generalize lastR g i = la at *
      generalize g.xs.getD i 0 = x at *
      cases hf : g.on i
      · rw [hf] at s0 LN TN RN
        rw [if_neg (by decide)] at LN TN RN
        clear hf
        go_wp2
        go_roundg gk
        case measure => omega
        case rel => exact ⟨i + 1, by rw [LN.out], by go_num, by omega, ⟨by have := HQ.out; omega⟩, ⟨by rw [TN.out, RN.out]; exact HS.out⟩⟩
      · rw [hf] at s0 LN TN RN LD
        rw [if_pos rfl] at LN TN RN
        clear hf
        go_wp2_with fail
        rw [← LN.out]
        generalize hv : lastR g (i + 1) = v at *
        have HV := Aside0.mk hv
        clear hv
        have H2 := HS.out.slb_turn1 2 rfl i v
        rw [LD.out] at H2
        replace HS := Aside0.mk H2
        clear H2
        refine (put_any (HS.out.arr 3 rfl) i v).mono ?_
        rintro e w3 ⟨rfl, hs, ho⟩
        replace HS := Aside0.mk (HS.out.turn_arr 3 rfl ho hs)
        rw [putR_off hlt (by rw [TD.out]; simp)]
        clear hs ho s0 s1 f1
        go_wp2
        go_roundg gk
        case measure => omega
        case rel => exact ⟨i + 1, by rw [HV.out], by go_num, by omega, ⟨by have := HQ.out; omega⟩, ⟨by rw [TN.out, RN.out]; exact HS.out⟩⟩
    · obtain rfl : n = i := by omega
      go_wp2
      go_ret2
      have h := HS.out
      rw [CL.out] at h
      exact ⟨p, sb, ob, wb, lb, rfl, by rw [← HG.out]; exact sep_swap h.tail.tail⟩
end Go.Proofs.YtbjkncgpoengaaaDoor.F10
