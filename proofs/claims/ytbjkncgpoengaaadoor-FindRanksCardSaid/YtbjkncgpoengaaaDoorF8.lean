/- Whether keys rise, walked (a range over a function). -/
import Derived.Test.YtbjkncgpoengaaaDoorF7
namespace Go.Proofs.YtbjkncgpoengaaaDoor.F8
open Go.RowKit Go.Shelf Go.Proofs.YtbjkncgpoengaaaDoorW.PrintWords Go.Proofs.YtbjkncgpoengaaaDoorW.PrintLast Go.Proofs.YtbjkncgpoengaaaDoorW.PrintMore G1 G0 Q1 G2 G3 G4 G5 G6 G7 G8 G9 G10 G11 S1 F4 F7
set_option linter.unusedVariables false
set_option linter.unusedSimpArgs false
attribute [local go_sem] Oper.semAt_some

/-- Do numbers rise? Whether so far, whether there are none yet, the last one. -/
def stp (s : Bool × Bool × Int) (x : Int) : Bool × Bool × Int := (s.1 && (s.2.1 || decide (s.2.2 < x)), false, x)
def stA (l : List Int) : Bool × Bool × Int := l.foldl stp (true, true, 0)
def asc (l : List Int) : Bool := (stA l).1
theorem stA_snoc (l : List Int) (x : Int) : stA (l ++ [x]) = stp (stA l) x := by
  unfold stA
  rw [List.foldl_append]
  rfl
theorem asc_mono (l : List Int) : ∀ s : Bool × Bool × Int, s.1 = false → (l.foldl stp s).1 = false := by
  induction l with
  | nil => intro s h; exact h
  | cons x l ih =>
    intro s h
    refine ih _ ?_
    simp [stp, h]
theorem asc_pre {l m : List Int} (h : l <+: m) (hm : asc m = true) : asc l = true := by
  obtain ⟨r, rfl⟩ := h
  cases hl : asc l with
  | true => rfl
  | false =>
    unfold asc stA at hm hl
    rw [List.foldl_append, asc_mono _ _ hl] at hm
    cases hm
set_option maxRecDepth 100000 in
set_option maxHeartbeats 4000000 in
theorem sorted_in (m : Nat) (hm : 3 ≤ m) {p : Option Addr} {L : List (Nat × Int)} (w : World) (hI : Its w p L) (ha : asc (vals L) = true) :
    CallsIn Fence.wide m Tryd.prog 45 #[.pointer p] w fun e W' => e = .returned (.bool true) ∧ Below w.heap.size w W' := by
  have h1 : 1 ≤ m := by omega
  have HI := Aside0.mk hI
  have HA := Aside0.mk ha
  clear hI ha
  refine callsIn_of_wp_marks Tryd.func45 rfl trivial ?_ rfl
  simp only [Tryd.ntmps45, List.size_toArray, List.length_cons, List.length_nil, Nat.reduceAdd, Nat.reduceSub, Array.replicate_succ, Array.replicate_zero, List.push_toArray, List.append_toArray, List.nil_append, List.cons_append]
  gi_wp2_with (refine ⟨trivial, ?_⟩; gi_at_call 25; refine (callsIn_wide.2 (all_any _ _)).mono ?_; rintro e w' ⟨rfl, rfl⟩)
  have HS := Aside0.mk ((((Sep.nil w).new_blk #[.bool false] 4).new_blk #[.bool true] 4 |>.new_blk #[.int .i64 0] 3).new_blk #[.pointer p] 24)
  simp only [World.size_alloc] at HS
  generalize (((w.alloc (.cells #[.bool false] 4)).alloc (.cells #[.bool true] 4)).alloc (.cells #[.int .i64 0] 3)).alloc (.cells #[.pointer p] 24) = w1 at *
  have hsz : Aside0 (w.heap.size + 3 < w1.heap.size) := ⟨blk_lt (HS.out.blk 3 rfl)⟩
  obtain ⟨K, N, hN, hL, hK, hseq⟩ := its_seq HI.out HS.out.below (HS.out.blk 3 rfl)
  have HK := Aside0.mk hK
  have hKb : ∀ k ∈ K, k < w1.heap.size := fun k hk => by rcases HK.out k hk with e | e <;> (have := hsz.out; omega)
  have HQ := Aside0.mk (And.intro hKb hL)
  clear hK hKb hL
  have hBo : ∀ (x y z u : Array Value), ∀ o ∈ [Blk w.heap.size x 4, Blk (w.heap.size + 1) y 4, Blk (w.heap.size + 1 + 1) z 3, Blk (w.heap.size + 1 + 1 + 1) u 24], ∀ k ∈ o.F, k < w1.heap.size := by
    intro x y z u o ho k hk
    simp only [List.mem_cons, List.not_mem_nil, or_false] at ho
    have := hsz.out
    rcases ho with rfl | rfl | rfl | rfl <;> (simp only [Blk, List.mem_singleton] at hk; omega)
  have HBo := Aside0.mk hBo
  clear hBo
  refine wpIn_rangeFunc_ownG rfl h1 (gf := 57) (lb := #[.pointer (some ⟨w.heap.size + 1 + 1 + 1, 0, none⟩)]) rfl trivial (enters_of Tryd.func57 (by kernel_rfl) rfl)
    (hseq (m - 1) (by omega)) Stay.trans (fun W l o o' a b _ _ => stay_putObj HQ.out.1 W l o o' a b) (Below.refl _ _) (fun _ => rfl)
    (fun pre W => (asc (vals pre) = true ∧ w1.heap.size ≤ W.heap.size) ∧ Sep w W [Blk w.heap.size #[.bool false] 4, Blk (w.heap.size + 1) #[.bool (stA (vals pre)).2.1] 4, Blk (w.heap.size + 1 + 1) #[.int .i64 (stA (vals pre)).2.2] 3, Blk (w.heap.size + 1 + 1 + 1) #[.pointer p] 24])
    (fun _ pre _ => asc (vals pre) = false)
    (fun pre W W' row h hg hr => ⟨⟨h.1.1, Nat.le_trans h.1.2 hg.size⟩, sep_grow h.2 (HBo.out _ _ _ _) hg (fun r e => (hr r e).1) HS.out.below.size⟩)
    (fun _ _ _ _ _ hs _ _ => hs)
    ⟨⟨rfl, Nat.le_refl _⟩, HS.out⟩
    (fun x => { tmps := #[.pointer p, undef, .pointer (some ⟨w.heap.size, 0, none⟩), .pointer (some ⟨w.heap.size + 1, 0, none⟩), .pointer (some ⟨w.heap.size + 1 + 1, 0, none⟩), undef, .int .i64 x.2, .pointer p, .func (.func 57) #[] #[.pointer (some ⟨w.heap.size + 1 + 1 + 1, 0, none⟩)], .int .i64 (x.1 : Int), .int .i64 x.2, undef, undef, undef, undef, undef, undef, undef, undef], defers := [] }) ?assign ?body ?done ?stop
  case assign =>
    intro l x W K hK
    gi_wp2
    exact hK
  case body =>
    rintro l pre x W ⟨⟨hp, hz⟩, hs⟩ hlt
    have HP := Aside0.mk hp
    have HS := Aside0.mk hs
    have SN : Aside0 (stA (vals (pre ++ [x])) = stp (stA (vals pre)) x.2) := ⟨by
      rw [← stA_snoc]
      unfold vals
      rw [List.map_append]
      rfl⟩
    clear hp hs
    have c0 : (_ : Option Value) = some (.bool false) := (blk_cell (HS.out.blk 0 rfl) 0).trans rfl
    have f0 := blk_frozen (HS.out.blk 0 rfl) 0
    have f1 := blk_frozen (HS.out.blk 1 rfl) 0
    have f2 := blk_frozen (HS.out.blk 2 rfl) 0
    have c1 : (_ : Option Value) = some (.bool (stA (vals pre)).2.1) := (blk_cell (HS.out.blk 1 rfl) 0).trans rfl
    have c2 : (_ : Option Value) = some (.int .i64 (stA (vals pre)).2.2) := (blk_cell (HS.out.blk 2 rfl) 0).trans rfl
    have e1 : (stA (vals pre)).1 = true := HP.out
    have E1 := Aside0.mk e1
    clear e1
    generalize stA (vals pre) = s at *
    obtain ⟨s1, s2, s3⟩ := s
    obtain ⟨k, x⟩ := x
    dsimp only at *
    have NX : Aside0 (s2 = true ∨ s3 < x → (KeepsFrom w1.heap.size W ((W.setCell ⟨w.heap.size + 1, 0, none⟩ (.bool false)).setCell ⟨w.heap.size + 1 + 1, 0, none⟩ (.int .i64 x)) ∧ Stay K W ((W.setCell ⟨w.heap.size + 1, 0, none⟩ (.bool false)).setCell ⟨w.heap.size + 1 + 1, 0, none⟩ (.int .i64 x)) ∧ (asc (vals (pre ++ [(k, x)])) = true ∧ w1.heap.size ≤ ((W.setCell ⟨w.heap.size + 1, 0, none⟩ (.bool false)).setCell ⟨w.heap.size + 1 + 1, 0, none⟩ (.int .i64 x)).heap.size) ∧ Sep w ((W.setCell ⟨w.heap.size + 1, 0, none⟩ (.bool false)).setCell ⟨w.heap.size + 1 + 1, 0, none⟩ (.int .i64 x)) [Blk w.heap.size #[.bool false] 4, Blk (w.heap.size + 1) #[.bool (stA (vals (pre ++ [(k, x)]))).2.1] 4, Blk (w.heap.size + 1 + 1) #[.int .i64 (stA (vals (pre ++ [(k, x)]))).2.2] 3, Blk (w.heap.size + 1 + 1 + 1) #[.pointer p] 24])) := ⟨fun hc => by
      have O : Only (fun k => k = w.heap.size + 1 ∨ k = w.heap.size + 1 + 1) W ((W.setCell ⟨w.heap.size + 1, 0, none⟩ (.bool false)).setCell ⟨w.heap.size + 1 + 1, 0, none⟩ (.int .i64 x)) :=
        (Only.set _ W (p := ⟨w.heap.size + 1, 0, none⟩) (.inl rfl) _).trans (Only.set _ _ (p := ⟨w.heap.size + 1 + 1, 0, none⟩) (.inr rfl) _)
      have hz1 := hsz.out
      refine ⟨keeps_only O (fun k hk => by omega), stay_only O (fun k hk => ⟨by have := HQ.out.1 k hk; omega, by rcases HK.out k hk with e | e <;> omega⟩), ⟨?_, Nat.le_trans hz O.size⟩, ?_⟩
      · unfold asc
        rw [SN.out]
        have e1 : s1 = true := E1.out
        simp only [stp, e1, Bool.true_and, Bool.or_eq_true, decide_eq_true_eq]
        exact hc
      · rw [SN.out]
        exact (HS.out.turn_blk 1 rfl 0 (.bool false)).turn_blk 2 rfl 0 (.int .i64 x)⟩
    cases s2
    · cases g : decide (x ≤ s3)
      · have G := Aside0.mk (of_decide_eq_false g)
        gi_wp2
        exact NX.out (.inr (by have := G.out; omega))
      · have G := Aside0.mk (of_decide_eq_true g)
        gi_wp2
        refine ⟨keeps_only (Only.set (· = w.heap.size) W (p := ⟨w.heap.size, 0, none⟩) rfl _) (fun k hk => by have := hsz.out; omega), ?_⟩
        show asc (vals (pre ++ [(k, x)])) = false
        unfold asc
        rw [SN.out]
        have := G.out
        simp [stp]
        intro _
        omega
    · gi_wp2
      exact NX.out (by simp)
  case done =>
    rintro D ys W hD rfl ⟨⟨hp, hz⟩, hs⟩ hK
    have HS2 := Aside0.mk hs
    clear hp hs
    have f0 := blk_frozen (HS2.out.blk 0 rfl) 0
    have c0 : (_ : Option Value) = some (.bool false) := (blk_cell (HS2.out.blk 0 rfl) 0).trans rfl
    gi_wp2
    have HS3 := HS2.out.turn_blk 0 rfl 0 (.bool true)
    have HD : (W.setCell ⟨w.heap.size, 0, none⟩ (.bool true)).heap[D]? = some (.deferred (some [])) := (Below.heap_setCell _ _ _ _ (by have := hsz.out; show D ≠ w.heap.size; omega)).trans hK
    refine ⟨by simp, .inl ⟨_, _, rfl, run_takeDeferred HD, ?_⟩⟩
    have HS4 := sep_grow (B := w1.heap.size) HS3 (HBo.out _ _ _ _) (grownBy_putObj' _ D (.deferred none)) (fun r e => by cases e; exact hD) HS.out.below.size
    exact ⟨_, results_cell (t := 2) (ty := 4) (b := w.heap.size) rfl rfl ((blk_cell (HS4.blk 0 rfl) 0).trans rfl) (run_isAgg_plain Tryd.underlying4 rfl _), rfl, HS4.below⟩
  case stop =>
    rintro D c pre W _ hpre h _
    have h2 : asc (vals pre) = true := asc_pre (hpre.map _) HA.out
    rw [h2] at h
    cases h
theorem sorted_any {p : Option Addr} {L : List (Nat × Int)} {w : World} (hI : Its w p L) (ha : asc (vals L) = true) : Calls Tryd.prog 45 #[.pointer p] w fun e w' => e = .returned (.bool true) ∧ Below w.heap.size w w' :=
  callsIn_wide.1 (sorted_in 3 (by omega) w hI ha)
end Go.Proofs.YtbjkncgpoengaaaDoor.F8
