/- Who follows what is told (RebalFollows$1): walked. -/
import Derived.Test.YtofkkdjbilklcaaDoorZB
namespace Go.Proofs.YtofkkdjbilklcaaDoor.ZF
open Go.RowKit Go.Shelf Go.Proofs.YtofkkdjbilklcaaDoorW.PrintWords Go.Proofs.YtofkkdjbilklcaaDoorW.PrintLast Go.Proofs.YtofkkdjbilklcaaDoorW.PrintMore G1 G0 Q1 G2 G3 G4 G5 G6 G7 G8 G9 G10 S1 Y1 Y3 Y2 Z0 Z1 Z2 Z3 Z4 ZR ZM ZP
set_option linter.unusedVariables false
set_option linter.unusedSimpArgs false
/-- A fact, carried along. -/
def FactO (p : Prop) : Ob := ⟨[], fun _ => p, fun _ h => h⟩
/-- What stands at a slot: 0 where none. -/
def atZ (g : Gap) (i : Nat) : Int := if g.on i then g.xs.getD i 0 else 0
def ats (n : Nat) (g : Gap) : List Value := (List.range n).map fun i => .int .i64 (atZ g i)
theorem ats_length (n : Nat) (g : Gap) : (ats n g).length = n := by simp [ats]
theorem ats_at {n : Nat} (g : Gap) {i : Nat} (h : i < n) : (ats n g).toArray[i]? = some (.int .i64 (atZ g i)) := by simp [ats, h]
/-- Every element has a number. -/
structure Good (n : Nat) (g : Gap) : Prop where
  len : g.xs.length = n
  pos : ∀ i, i < n → g.on i = true → g.xs.getD i 0 ≠ 0
theorem ats_move {n : Nat} {g : Gap} {x : Int} {i j : Nat} (hv : Valid n g x i j) (hl : g.xs.length = n) : ((ats n g).toArray.setIfInBounds i (.int .i64 0)).setIfInBounds j (.int .i64 x) = (ats n (moveS n g (i : Int) (j : Int))).toArray := by
  rw [List.setIfInBounds_toArray, List.setIfInBounds_toArray]
  congr 1
  apply List.ext_getElem
  · simp [ats]
  · intro k h1 h2
    have hk : k < n := by simpa [ats] using h2
    have hne := hv.ne
    simp only [ats, List.getElem_map, List.getElem_range, List.getElem_set, atZ]
    rw [hv.on_at, hv.xs_at hl]
    by_cases e1 : k = j
    · subst e1; simp
    · by_cases e2 : k = i
      · subst e2; simp [e1, Ne.symm e1]
      · simp [e1, e2, Ne.symm e1, Ne.symm e2]
theorem Good.move {n : Nat} {g : Gap} {x : Int} {i j : Nat} (h : Good n g) (hv : Valid n g x i j) : Good n (moveS n g (i : Int) (j : Int)) := ⟨by rw [hv.len]; exact h.len, fun k hk => by
  rw [hv.on_at, hv.xs_at h.len]
  by_cases e1 : k = j
  · rw [if_pos e1, if_pos e1]
    intro _
    rw [← hv.val]
    exact h.pos i hv.hi hv.on
  · rw [if_neg e1, if_neg e1]
    by_cases e2 : k = i
    · rw [if_pos e2]; intro h; cases h
    · rw [if_neg e2, if_neg e2]; exact h.pos k hk⟩
/-- Who follows: the number of slots, what stands at each, whether all was right. -/
def TF (n : Nat) (g0 : Gap) (bn ba bc br : Nat) (_ : Unit) (ms : List Mv) : List Ob := [FactO (Good n (runM n g0 ms)), S1.Blk bn #[.int .i64 (n : Int)] 3, S1.Blk ba (ats n (runM n g0 ms)).toArray 3, S1.Blk bc #[.slice (some ⟨ba, 0, none⟩) n n] 22, S1.Blk br #[.bool true] 4]
abbrev fnF (bn bc br : Nat) : Value := .func (.func 31) #[] #[.pointer (some ⟨bn, 0, none⟩), .pointer (some ⟨bc, 0, none⟩), .pointer (some ⟨br, 0, none⟩)]
/-- A carried fact changed for another one. -/
theorem sep_fact {w0 w : World} {p q : Prop} {l : List Ob} (h : Sep w0 w (FactO p :: l)) (hq : q) : Sep w0 w (FactO q :: l) := by
  have h1 := h.tail
  refine ⟨h1.below, fun o ho => ?_, fun o ho k hk => ?_, ?_⟩
  · rcases List.mem_cons.1 ho with rfl | ho
    · exact hq
    · exact h1.ok o ho
  · rcases List.mem_cons.1 ho with rfl | ho
    · cases hk
    · exact h1.lo o ho k hk
  · exact List.pairwise_cons.2 ⟨fun b _ k hk => (by cases hk), h1.ap⟩
set_option maxRecDepth 100000 in
set_option maxHeartbeats 4000000 in
theorem told_any {w0 W : World} {n : Nat} {g0 : Gap} {bn ba bc br : Nat} {ms : List Mv} {L : List Ob} {x : Int} {i j : Nat} (hn : n ≤ 100000) (hv : Valid n (runM n g0 ms) x i j) (hs : Sep w0 W (TF n g0 bn ba bc br () ms ++ L)) :
    Calls Tryd.prog 31 #[.int .i64 x, .int .i64 (i : Int), .int .i64 (j : Int), .pointer (some ⟨bn, 0, none⟩), .pointer (some ⟨bc, 0, none⟩), .pointer (some ⟨br, 0, none⟩)] W fun e W' => e = .returned (.tuple #[]) ∧ Sep w0 W' (TF n g0 bn ba bc br () (ms ++ [⟨x, (i : Int), (j : Int)⟩]) ++ L) := by
  have hg : Good n (runM n g0 ms) := hs.get 0 rfl
  have HM : Aside0 (runM n g0 (ms ++ [⟨x, (i : Int), (j : Int)⟩]) = moveS n (runM n g0 ms) (i : Int) (j : Int)) := ⟨runM_snoc _ _ _ _⟩
  unfold TF at hs ⊢
  rw [HM.out]
  generalize runM n g0 ms = g at *
  have HS : Aside0 (Sep w0 W (FactO (Good n g) :: S1.Blk bn #[.int .i64 (n : Int)] 3 :: S1.Blk ba (ats n g).toArray 3 :: S1.Blk bc #[.slice (some ⟨ba, 0, none⟩) n n] 22 :: S1.Blk br #[.bool true] 4 :: L)) := ⟨hs⟩
  have HG := Aside0.mk (And.intro hg hv)
  have a1 := hv.hi
  have a2 := hv.hj
  have hne := hv.ne
  have q0 : ((i : Int) == (j : Int)) = false := beq_eq_false_iff_ne.2 (by omega)
  have q1 : (x != x) = false := by simp
  have d1 : (_ : Option Value) = some (.int .i64 (n : Int)) := (blk_cell (HS.out.blk 1 rfl) 0).trans rfl
  have d3 : (_ : Option Value) = some (.slice (some ⟨ba, 0, none⟩) n n) := (blk_cell (HS.out.blk 3 rfl) 0).trans rfl
  have d4 : (_ : Option Value) = some (.bool true) := (blk_cell (HS.out.blk 4 rfl) 0).trans rfl
  have b1 : (_ : Option Value) = some (.int .i64 (atZ g i)) := (blk_cell (HS.out.blk 2 rfl) i).trans (ats_at g a1)
  have b2 : (_ : Option Value) = some (.int .i64 (atZ g j)) := (blk_cell (HS.out.blk 2 rfl) j).trans (ats_at g a2)
  rw [show atZ g i = x by unfold atZ; rw [if_pos hv.on]; exact hv.val] at b1
  rw [show atZ g j = 0 by unfold atZ; rw [hv.off]; rfl] at b2
  have p0 : decide ((i : Int) < 0) = false := decide_eq_false (by omega)
  have p1 : decide ((j : Int) < 0) = false := decide_eq_false (by omega)
  have p2 : decide (n ≤ i) = false := decide_eq_false (by omega)
  have p3 : decide (n ≤ j) = false := decide_eq_false (by omega)
  have HZ : Aside0 (∀ k, ((i < k ∧ k ≤ j) ∨ (j ≤ k ∧ k < i)) → atZ g k = 0) := ⟨fun k hk => by
    unfold atZ
    have : g.on k = false := by
      by_cases e : k = j
      · rw [e]; exact hv.off
      · exact hv.clear k (by omega)
    rw [this]; rfl⟩
  have HN := Aside0.mk (And.intro hn hne)
  clear hs hg hv hne HM
  go_enter Tryd.func31, Tryd.ntmps31
  go_wp2
  clear d1 d3 d4 b1 b2 q0 q1 p0 p1 p2 p3
  go_loopg [9] (n + 1) (fun kq v9 V => ∃ k : Nat, v9 = .int .i64 (k : Int) ∧ Aside0 (((i ≤ k ∧ k ≤ j) ∨ (j ≤ k ∧ k ≤ i)) ∧ (k - j) + (j - k) + 1 ≤ kq) ∧ Aside0 (Sep w0 V (FactO (Good n g) :: S1.Blk bn #[.int .i64 (n : Int)] 3 :: S1.Blk ba (ats n g).toArray 3 :: S1.Blk bc #[.slice (some ⟨ba, 0, none⟩) n n] 22 :: S1.Blk br #[.bool true] 4 :: L)))
  case atStart => exact ⟨i, rfl, ⟨by have := HN.out.2; omega, by omega⟩, HS⟩
  case round =>
    clear HS
    obtain ⟨k, rfl, HK, HS⟩ := hrel
    have hk1 := HK.out.1
    have hn5 := HN.out.1
    have d3 : (_ : Option Value) = some (.slice (some ⟨ba, 0, none⟩) n n) := (blk_cell (HS.out.blk 3 rfl) 0).trans rfl
    have d4 : (_ : Option Value) = some (.bool true) := (blk_cell (HS.out.blk 4 rfl) 0).trans rfl
    have f4 := blk_frozen (HS.out.blk 4 rfl) 0
    have HS2 := Aside0.mk (HS.out.turn_blk 4 rfl 0 (.bool true))
    by_cases hkj : k = j
    · subst hkj
      have q0 : ((k : Int) == (k : Int)) = true := by simp
      have f2 := blk_frozen (HS.out.blk 2 rfl) i
      have HSa := Aside0.mk (HS.out.turn_blk 2 rfl i (.int .i64 0))
      have f3 := blk_frozen (HSa.out.blk 2 rfl) k
      have b1 : (_ : Option Value) = some (.int .i64 (atZ g i)) := (blk_cell (HS.out.blk 2 rfl) i).trans (ats_at g a1)
      have b2 : (_ : Option Value) = some (.int .i64 (atZ g k)) := (blk_cell (HSa.out.blk 2 rfl) k).trans ((Array.getElem?_setIfInBounds_ne HN.out.2).trans (ats_at g a2))
      generalize atZ g i = z1 at b1
      generalize atZ g k = z2 at b2
      have d5 : (_ : Option Value) = some (.slice (some ⟨ba, 0, none⟩) n n) := (blk_cell (HSa.out.blk 3 rfl) 0).trans rfl
      have HS3 := Aside0.mk (HSa.out.turn_blk 2 rfl k (.int .i64 x))
      clear HS2 f4 d4 hk1 HK
      go_wp2
      go_end0
      refine ⟨rfl, ?_⟩
      rw [← ats_move HG.out.2 HG.out.1.len]
      exact sep_fact HS3.out (HG.out.1.move HG.out.2)
    · have q0 : ((k : Int) == (j : Int)) = false := beq_eq_false_iff_ne.2 (by omega)
      by_cases hlt : k < j
      · obtain ⟨t, ht⟩ : ∃ t, k + 1 = t := ⟨_, rfl⟩
        have et : (k : Int) + 1 = (t : Int) := by omega
        have p0 : (k : Int) < (j : Int) := by omega
        have htn : t < n := by omega
        have HT2 : Aside0 ((i ≤ t ∧ t ≤ j) ∨ (j ≤ t ∧ t ≤ i)) := ⟨by omega⟩
        have b1 : (_ : Option Value) = some (.int .i64 (atZ g t)) := (blk_cell (HS.out.blk 2 rfl) t).trans (ats_at g htn)
        rw [HZ.out t (by omega)] at b1
        have HM : Aside0 ((t - j) + (j - t) < (k - j) + (j - k)) := ⟨by omega⟩
        clear hkj hlt ht hk1
        go_wp2
        go_roundg ((t - j) + (j - t) + 1)
        case measure => have := HM.out; have := HK.out.2; omega
        case rel => exact ⟨t, rfl, ⟨⟨HT2.out, Nat.le_refl _⟩⟩, HS2⟩
      · obtain ⟨t, ht⟩ : ∃ t, k - 1 = t := ⟨_, rfl⟩
        have et : (k : Int) - 1 = (t : Int) := by omega
        have p0 : decide (k < j) = false := decide_eq_false (by omega)
        have htn : t < n := by omega
        have HT2 : Aside0 ((i ≤ t ∧ t ≤ j) ∨ (j ≤ t ∧ t ≤ i)) := ⟨by omega⟩
        have b1 : (_ : Option Value) = some (.int .i64 (atZ g t)) := (blk_cell (HS.out.blk 2 rfl) t).trans (ats_at g htn)
        rw [HZ.out t (by omega)] at b1
        have HM : Aside0 ((t - j) + (j - t) < (k - j) + (j - k)) := ⟨by omega⟩
        clear hkj hlt ht hk1
        go_wp2
        go_roundg ((t - j) + (j - t) + 1)
        case measure => have := HM.out; have := HK.out.2; omega
        case rel => exact ⟨t, rfl, ⟨⟨HT2.out, Nat.le_refl _⟩⟩, HS2⟩
theorem tell_F (w0 : World) {n : Nat} (hn : n ≤ 100000) (g0 : Gap) (bn ba bc br : Nat) : Tell7 w0 n g0 (fnF bn bc br) (TF n g0 bn ba bc br) :=
  ⟨.inr ⟨31, #[.pointer (some ⟨bn, 0, none⟩), .pointer (some ⟨bc, 0, none⟩), .pointer (some ⟨br, 0, none⟩)], rfl, enters_of Tryd.func31 (by kernel_rfl) rfl, fun _ ms x i j W L _ hv hs => (told_any hn hv hs).mono fun e w' ⟨h1, h2⟩ => ⟨h1, (), h2⟩⟩⟩
end Go.Proofs.YtofkkdjbilklcaaDoor.ZF
