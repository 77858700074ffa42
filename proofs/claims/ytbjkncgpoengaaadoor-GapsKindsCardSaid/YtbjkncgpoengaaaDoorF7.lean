/- What is told of no array; a walk through the elements, whether there is an array or none. -/
import Derived.Test.YtbjkncgpoengaaaDoorF4
namespace Go.Proofs.YtbjkncgpoengaaaDoor.F7
open Go.RowKit Go.Shelf Go.Proofs.YtbjkncgpoengaaaDoorW.PrintWords Go.Proofs.YtbjkncgpoengaaaDoorW.PrintLast Go.Proofs.YtbjkncgpoengaaaDoorW.PrintMore G1 G0 Q1 G2 G3 G4 G5 G6 G7 G8 G9 G10 G11 S1 F4
set_option linter.unusedVariables false
set_option linter.unusedSimpArgs false
attribute [local go_sem] Oper.semAt_some

theorem cap_nil  (w : World) : Calls Tryd.prog 29 #[.pointer none] w fun e w' => e = .returned (.int .i64 0) ∧ w = w' := by
  go_enter Tryd.func29, Tryd.ntmps29
  go_wp2
  go_ret
  exact ⟨rfl, rfl⟩
theorem slen_nil  (w : World) : Calls Tryd.prog 26 #[.pointer none] w fun e w' => e = .returned (.int .i64 0) ∧ w = w' := by
  go_enter Tryd.func26, Tryd.ntmps26
  go_wp2
  go_ret
  exact ⟨rfl, rfl⟩
theorem at_nil (i : Int) (w : World) : Calls Tryd.prog 27 #[.pointer none, .int .i64 i] w fun e w' => e = .returned (.tuple #[.int .i64 0, .bool false]) ∧ w = w' := by
  go_enter Tryd.func27, Tryd.ntmps27
  go_wp2
  go_ret2
  exact ⟨rfl, rfl⟩
theorem next_nil (i : Int) (w : World) : Calls Tryd.prog 46 #[.pointer none, .int .i64 i] w fun e w' => e = .returned (.int .i64 (-1)) ∧ w = w' := by
  go_enter Tryd.func46, Tryd.ntmps46
  go_wp2
  go_ret
  exact ⟨rfl, rfl⟩
theorem sprev_nil (i : Int) (w : World) : Calls Tryd.prog 47 #[.pointer none, .int .i64 i] w fun e w' => e = .returned (.int .i64 (-1)) ∧ w = w' := by
  go_enter Tryd.func47, Tryd.ntmps47
  go_wp2
  go_ret
  exact ⟨rfl, rfl⟩
theorem count_nil (i j : Int) (w : World) : Calls Tryd.prog 43 #[.pointer none, .int .i64 i, .int .i64 j] w fun e w' => e = .returned (.tuple #[.int .i64 0, .int .i64 2]) ∧ w = w' := by
  go_enter Tryd.func43, Tryd.ntmps43
  go_wp2
  go_ret2
  exact ⟨rfl, rfl⟩
theorem look_nil (A : Option Addr) (m c : Nat) (w : World) : Calls Tryd.prog 67 #[.pointer none, .slice A m c] w fun e w' => e = .returned (.int .i64 2) ∧ w = w' := by
  go_enter Tryd.func67, Tryd.ntmps67
  go_wp2
  go_ret
  exact ⟨rfl, rfl⟩
theorem put_nil (i x : Int) (w : World) : Calls Tryd.prog 49 #[.pointer none, .int .i64 i, .int .i64 x] w fun e w' => e = .returned (.int .i64 2) ∧ Below w.heap.size w w' := by
  have HB := Aside0.mk (below_alloc (Below.refl w.heap.size w) (.cells #[.int .i64 i] 3))
  go_enter Tryd.func49, Tryd.ntmps49
  go_wp2_with fail
  refine (look_nil _ _ _ _).mono ?_
  rintro e w1 ⟨rfl, rfl⟩
  go_wp2
  go_ret
  exact ⟨rfl, HB.out⟩
theorem take_nil (i : Int) (w : World) : Calls Tryd.prog 48 #[.pointer none, .int .i64 i] w fun e w' => e = .returned (.tuple #[.int .i64 0, .int .i64 2]) ∧ Below w.heap.size w w' := by
  have HB := Aside0.mk (below_alloc (Below.refl w.heap.size w) (.cells #[.int .i64 i] 3))
  go_enter Tryd.func48, Tryd.ntmps48
  go_wp2_with fail
  refine (look_nil _ _ _ _).mono ?_
  rintro e w1 ⟨rfl, rfl⟩
  go_wp2
  go_ret2
  exact ⟨rfl, HB.out⟩
theorem move_nil (i j : Int) (w : World) : Calls Tryd.prog 42 #[.pointer none, .int .i64 i, .int .i64 j] w fun e w' => e = .returned (.int .i64 2) ∧ Below w.heap.size w w' := by
  have HB := Aside0.mk (below_alloc (Below.refl w.heap.size w) (.cells #[.int .i64 i, .int .i64 j] 3))
  go_enter Tryd.func42, Tryd.ntmps42
  go_wp2_with fail
  refine (look_nil _ _ _ _).mono ?_
  rintro e w1 ⟨rfl, rfl⟩
  go_wp2
  go_ret
  exact ⟨rfl, HB.out⟩
set_option maxHeartbeats 1000000 in
theorem all1_nil (m : Nat) (hm : 1 ≤ m) (l Bn : Nat) (J : List (Nat × Int) → World → Prop) (W : World) (hB : W.heap[Bn]? = some (.cells #[.pointer none] 24 (0, 0))) (h0 : J [] W) :
    CallsIn Fence.wide m Tryd.prog 57 #[.func (.yield l) #[] #[], .pointer (some ⟨Bn, 0, none⟩)] W fun e W' => (∃ v, e = .returned v) ∧ J [] W' := by
  have HJ0 := Aside0.mk h0
  have c0 : W.cell? ⟨Bn, 0, none⟩ = some (.pointer none) := (blk_cell hB 0).trans rfl
  clear hB h0
  refine callsIn_of_wp Tryd.func57 rfl trivial ?_ rfl
  simp only [Tryd.ntmps57, List.size_toArray, List.length_cons, List.length_nil, Nat.reduceAdd, Nat.reduceSub, Array.replicate_succ, Array.replicate_zero, List.push_toArray, List.append_toArray, List.nil_append, List.cons_append]
  gi_wp2_with (refine ⟨trivial, ?_⟩; gi_at_call 46; refine (callsIn_wide.2 (next_nil 0 W)).mono ?_; rintro e w1 ⟨rfl, rfl⟩)
  gi_loopw [3] (fun i wr => i = .int .i64 (-1) ∧ Aside0 (J [] wr)) (fun i _ => 0)
  case atStart => exact ⟨rfl, HJ0⟩
  case round =>
    obtain ⟨rfl, HJ⟩ := hrel
    gi_wp2
    go_end0
    exact ⟨⟨_, rfl⟩, HJ.out⟩
theorem ons_prefix (f : Nat → Bool) (xs : List Int) {k n : Nat} (hk : k ≤ n) : ons f xs k <+: ons f xs n := by
  obtain ⟨d, rfl⟩ : ∃ d, n = k + d := ⟨n - k, by omega⟩
  clear hk
  induction d with
  | zero => exact List.prefix_refl _
  | succ d ih =>
    rw [← Nat.add_assoc, ons_succ]
    exact ih.trans (List.prefix_append _ _)
/-- What an array, or none, goes through. -/
def Its (w : World) (p : Option Addr) (L : List (Nat × Int)) : Prop := (p = none ∧ L = []) ∨ ∃ pb sb ob wb n g, p = some ⟨pb, 0, none⟩ ∧ Is w pb sb ob wb n g ∧ Tb w ∧ L = ons g.on g.xs n
theorem Its.below {w w' : World} {p : Option Addr} {L : List (Nat × Int)} (h : Its w p L) (hb : Below w.heap.size w w') : Its w' p L := by
  rcases h with h | ⟨pb, sb, ob, wb, n, g, e, hs, hT, e2⟩
  · exact .inl h
  · exact .inr ⟨pb, sb, ob, wb, n, g, e, hs.below hb, Kd.C_below hT hb, e2⟩
/-- The seq. -/
theorem its_seq {w0 w : World} {p : Option Addr} {L : List (Nat × Int)} (h0 : Its w0 p L) (hb0 : Below w0.heap.size w0 w) {Bn : Nat} (hB : w.heap[Bn]? = some (.cells #[.pointer p] 24 (0, 0))) :
    ∃ (K : List Nat) (N : Nat), N ≤ 65536 ∧ L.length ≤ N ∧ (∀ k ∈ K, k = Bn ∨ k < w0.heap.size) ∧ ∀ m, 1 ≤ m → SeqStopsK Fence.wide m Tryd.prog 57 #[.pointer (some ⟨Bn, 0, none⟩)] (fun x : Nat × Int => #[.int .i64 (x.1 : Int), .int .i64 x.2]) (Stay K) (fun ys => ys = L) (fun pre => pre <+: L) N w := by
  rcases h0 with ⟨rfl, rfl⟩ | ⟨pb, sb, ob, wb, n, g, rfl, hs0, hT0, rfl⟩
  · refine ⟨[], 0, by omega, by simp, by simp, fun m hm l J Jx W hW hJ hJx hY h0 => (all1_nil m hm l Bn J W (blk_below hB hW) h0).mono ?_⟩
    rintro e w' ⟨hv, hj⟩
    exact ⟨hv, .inl ⟨[], rfl, hj⟩⟩
  · obtain ⟨vs, hs⟩ := hs0.below hb0
    have hT := Kd.C_below hT0 hb0
    refine ⟨[Bn, pb, sb, ob, wb, 0], n, hs.bits.high, by rw [ons_length]; exact cntF_le _ _, fun k hk => ?_, fun m hm l J Jx W hW hJ hJx hY h0 => ?_⟩
    · have hz0 : 0 < w0.heap.size := by
        obtain ⟨ad, e, hx⟩ := Kd.at_int hT0 0 (by omega) (by omega)
        cases e
        exact World.block_lt_of_cell? w0 _ hx
      have hl := is_lt hs0
      simp only [List.mem_cons, List.not_mem_nil, or_false] at hk
      rcases hk with rfl | rfl | rfl | rfl | rfl | rfl
      · exact .inl rfl
      · exact .inr (hl _ (by simp))
      · exact .inr (hl _ (by simp))
      · exact .inr (hl _ (by simp))
      · exact .inr (hl _ (by simp))
      · exact .inr hz0
    · refine (all_stops m hm Bn hB hs hT l J Jx W hW hJ hJx hY h0).mono ?_
      rintro e w' ⟨hv, hj | ⟨pre, ⟨k, hk, rfl⟩, hx⟩⟩
      · exact ⟨hv, .inl hj⟩
      · exact ⟨hv, .inr ⟨_, ons_prefix _ _ hk, hx⟩⟩
/-- Objects that lie below B stand while what lies from B on is turned. -/
theorem sep_grow {w0 W W' : World} {l : List Ob} {B : Nat} {row : Option Nat} (h : Sep w0 W l) (hB : ∀ o ∈ l, ∀ k ∈ o.F, k < B) (hg : W.grownBy W' row) (hr : ∀ r, row = some r → B ≤ r) (h0 : w0.heap.size ≤ B) : Sep w0 W' l :=
  ⟨⟨hg.os.trans h.below.os, hg.tape.trans h.below.tape, hg.output.trans h.below.output, Nat.le_trans h.below.size hg.size, fun k hk => (hg.block k (Nat.lt_of_lt_of_le hk h.below.size) (fun e => by have := hr k e.symm; omega)).trans (h.below.block k hk)⟩,
    fun o ho => o.st (fun k hk => hg.block k (h.lo o ho k hk).2 (fun e => by have := hr k e.symm; have := hB o ho k hk; omega)) (h.ok o ho),
    fun o ho k hk => ⟨(h.lo o ho k hk).1, Nat.lt_of_lt_of_le (h.lo o ho k hk).2 hg.size⟩, h.ap⟩
theorem keeps_only {S : Nat → Prop} {B : Nat} {W W' : World} (h : Only S W W') (hS : ∀ k, S k → k < B) : KeepsFrom B W W' :=
  ⟨h.size, fun k o hB hk _ => (h.block k (blk_lt hk) (fun hs => by have := hS k hs; omega)).trans hk⟩
theorem keeps_below {B : Nat} {W W' : World} (h : Below W.heap.size W W') : KeepsFrom B W W' := keeps_only (S := fun _ => False) (Only.of_below h) (fun _ h => h.elim)
theorem stay_only {S : Nat → Prop} {K : List Nat} {W W' : World} (h : Only S W W') (hK : ∀ k ∈ K, k < W.heap.size ∧ ¬ S k) : Stay K W W' := fun k hk => h.block k (hK k hk).1 (hK k hk).2
/-- A result that lies in a cell. -/
theorem results_cell {fn : Func} {t : Nat} {ty : TypeId} {P : Program} {W : World} {tmps : Array Value} {b : Nat} {v : Value} (h : fn.results = #[.cell t ty]) (ht : tmps.getD t undef = .pointer (some ⟨b, 0, none⟩)) (hc : W.cell? ⟨b, 0, none⟩ = some v) (ha : (isAgg ty).run P W = .ok false W) : (results fn tmps).run P W = .ok v W := by
  have ht' : tmps[t]?.getD undef = .pointer (some ⟨b, 0, none⟩) := by simpa using ht
  simp [results, h, ht', asAddr, loadVar, go_sem, ha, hc]
end Go.Proofs.YtbjkncgpoengaaaDoor.F7
