/- Contracts of the layer's printed functions, told by what they mean; a block's keys. -/
import Derived.Test.YthhmiieimfdffaaC4
import Derived.Test.YthhmiieimfdffaaK
import Derived.StillTailTactics
import Derived.Laws.EntriesVeiled
namespace Go.Proofs.Ythhmiieimfdffaa.C5
open Go.RowKit Go.Proofs.YthhmiieimfdffaaW.PrintWords Go.Proofs.YthhmiieimfdffaaW.PrintLast Go.Proofs.YthhmiieimfdffaaW.PrintMore C1 C2 C3 C4 Q1
set_option linter.unusedVariables false
set_option linter.unusedSimpArgs false

/-- How many bits there may be. -/
def bitsB (b : Int) : Bool := decide (1 ≤ b ∧ b ≤ 10)
theorem right_f (b : Int) : block_right.f b = some (bitsB b) := by
  unfold block_right.f bitsB
  by_cases h : b ≥ 1
  · rw [if_pos h]; congr 1; rw [decide_eq_decide]; omega
  · rw [if_neg h]; congr 1; rw [eq_comm, decide_eq_false_iff_not]; omega
theorem right_any (b : Int) (w : World) : Calls Try.prog 20 #[.int .i64 b] w fun e w' => e = .returned (.bool (bitsB b)) ∧ Drawn0 w w' := block_right.calls b _ w (right_f b)
variable {b : Nat} {A : Option Addr} {c : Nat} {l : List Int} {w : World}
theorem wide_any (h1 : 1 ≤ b) (h2 : b ≤ 10) (hr : Kd.C (Kd.int .i64) w A l.length l) (hc : l.length ≤ c) : Calls Try.prog 34 #[.agg #[.int .i64 b, .slice A l.length c]] w fun e w' => e = .returned (.int .i64 (wd b)) ∧ Below w.heap.size w w' :=
  block_Layout_wide.calls b A c l _ w hr hc (wide_f h1 h2 l)
theorem blocks_any (h1 : 1 ≤ b) (h2 : b ≤ 10) (hl : l.length ≤ 1000000) (hr : Kd.C (Kd.int .i64) w A l.length l) (hc : l.length ≤ c) : Calls Try.prog 24 #[.agg #[.int .i64 b, .slice A l.length c]] w fun e w' => e = .returned (.int .i64 (blk l.length (wd b))) ∧ Below w.heap.size w w' :=
  block_Layout_blocks.calls b A c l _ w hr hc (blocks_f h1 h2 l hl)
theorem child_any (h1 : 1 ≤ b) (h2 : b ≤ 10) {i : Nat} (hi : i ≤ 1000000000000) (hr : Kd.C (Kd.int .i64) w A l.length l) (hc : l.length ≤ c) : Calls Try.prog 29 #[.agg #[.int .i64 b, .slice A l.length c], .int .i64 i] w fun e w' => e = .returned (.int .i64 (kid (wd b) i)) ∧ Below w.heap.size w w' :=
  block_Layout_child.calls b A c l i _ w hr hc (child_f h1 h2 l hi)
theorem below_any (h1 : 1 ≤ b) (h2 : b ≤ 10) (hl : l.length ≤ 1000000) {a m : Nat} (hm : m ≤ a * wd b) (hs : sumC l.length (wd b) a m ≤ l.length) (hr : Kd.C (Kd.int .i64) w A l.length l) (hc : l.length ≤ c) : Calls Try.prog 30 #[.agg #[.int .i64 b, .slice A l.length c], .int .i64 a, .int .i64 (a + m : Nat)] w fun e w' => e = .returned (.int .i64 (sumC l.length (wd b) a m)) ∧ Below w.heap.size w w' :=
  block_Layout_below.calls _ b A c l a (a + m : Nat) _ w hr hc (belowAll_f h1 h2 l hl a m hm hs)
theorem less_any (key : Int) (hl : l.length ≤ 1000000) (hr : Kd.C (Kd.int .i64) w A l.length l) (hc : l.length ≤ c) : Calls Try.prog 27 #[.slice A l.length c, .int .i64 key] w fun e w' => e = .returned (.tuple #[.int .i64 (rankN l key), .int .i64 (comparedN l key)]) ∧ Drawn0 w w' :=
  block_less.calls _ A c l key _ _ w hr hc (less_f l key (by omega))
theorem Blocks_yes (h1 : 1 ≤ b) (h2 : b ≤ 10) (hl : l.length ≤ 1000000) (hr : Kd.C (Kd.int .i64) w A l.length l) (hc : l.length ≤ c) : Calls Try.prog 10 #[.agg #[.int .i64 b, .slice A l.length c]] w fun e w' => e = .returned (.tuple #[.int .i64 (blk l.length (wd b)), .int .i64 0]) ∧ Below w.heap.size w w' :=
  block_Layout_Blocks.calls b A c l _ _ w hr hc (by unfold block_Layout_Blocks.f; rw [right_f, Option.bind_some, if_pos (show bitsB b = true from decide_eq_true (by omega)), blocks_f h1 h2 l hl, Option.bind_some])
theorem Blocks_no {b : Int} (hb : bitsB b = false) (hr : Kd.C (Kd.int .i64) w A l.length l) (hc : l.length ≤ c) : Calls Try.prog 10 #[.agg #[.int .i64 b, .slice A l.length c]] w fun e w' => e = .returned (.tuple #[.int .i64 0, .int .i64 10]) ∧ Below w.heap.size w w' :=
  block_Layout_Blocks.calls b A c l _ _ w hr hc (by unfold block_Layout_Blocks.f; rw [right_f, Option.bind_some, hb]; rfl)

/-- A block's keys, as they lie. -/
theorem C_block {ad : Addr} (hr : Kd.C (Kd.int .i64) w (some ad) l.length l) {wi i : Nat} (hi : i * wi < l.length) (hc : l.length ≤ c) : Kd.C (Kd.int .i64) w (some (ad.add (i * wi))) (sz l.length wi i) (blkOf l wi i) := by
  have h := Kd.C_drop hr (show i * wi ≤ l.length by omega) hc
  rw [if_neg (show ¬ c = i * wi by omega)] at h
  have h2 := Kd.C_take h (m := sz l.length wi i) (by simp [sz]; omega)
  have e : ((l.drop (i * wi)).take (sz l.length wi i)).length = sz l.length wi i := blkOf_length
  rw [e] at h2
  have e1 : (Kd.int .i64).sz = 1 := rfl
  rw [e1, Nat.mul_one] at h2
  exact h2
set_option maxHeartbeats 1000000 in
theorem block_in (h1 : 1 ≤ b) (h2 : b ≤ 10) (hl : l.length ≤ 1000000) {ad : Addr} {i : Nat} (hi : i * wd b < l.length) (ht : i * wd b + wd b ≤ l.length) (hr : Kd.C (Kd.int .i64) w (some ad) l.length l) (hc : l.length ≤ c) :
    Calls Try.prog 28 #[.agg #[.int .i64 b, .slice (some ad) l.length c], .int .i64 i] w fun e w' => e = .returned (.slice (some (ad.add (i * wd b))) (sz l.length (wd b) i) (sz l.length (wd b) i)) ∧ Below w.heap.size w w' := by
  have B1 := Aside0.mk (below_alloc (Below.refl w.heap.size w) (.cells #[.int .i64 b, .slice (some ad) l.length c] 25))
  have K1 := Aside0.mk (blk_new w (.cells #[.int .i64 b, .slice (some ad) l.length c] 25))
  have HR := Aside0.mk (Kd.C_below hr B1.out)
  obtain ⟨w1, w2, w3⟩ := wd_is h1 h2
  have hz : sz l.length (wd b) i = wd b := by unfold sz; omega
  rw [hz]
  have hm : (i : Int) * (wd b : Int) = ((i * wd b : Nat) : Int) := by simp
  generalize i * wd b = f at *
  have W := Aside0.mk (fun (w : World) (hr : Kd.C (Kd.int .i64) w (some ad) l.length l) => wide_any (w := w) h1 h2 hr hc)
  generalize wd b = wi at *
  clear hr w3 h1 h2
  go_enter Try.func28, Try.ntmps28
  have K1_c0 : (_ : Option Value) = some (.int .i64 b) := (blk_cell K1.out 0).trans rfl
  have K1_c1 : (_ : Option Value) = some (.slice (some ad) l.length c) := (blk_cell K1.out 1).trans rfl
  go_wp2_with fail
  refine (W.out _ HR.out).mono ?_
  rintro e w1 ⟨rfl, hw⟩
  have hb := hw
  clear hw
  replace HR := Aside0.mk (Kd.C_below HR.out hb)
  replace B1 := Aside0.mk (below_step B1.out hb)
  replace K1 := Aside0.mk (blk_below K1.out hb)
  replace K1_c0 : (_ : Option Value) = some (.int .i64 b) := (blk_cell K1.out 0).trans rfl
  replace K1_c1 : (_ : Option Value) = some (.slice (some ad) l.length c) := (blk_cell K1.out 1).trans rfl
  clear hb
  go_wp2_with fail
  have hw : IntKind.i64.wrap ((f : Int) + wi) = (f : Int) + wi := IntWalk.i64_in _ (by omega)
  have hlt : ¬ (l.length : Int) < (f : Int) + wi := by omega
  go_region_with (go_at_call 34; refine (W.out _ (Kd.C_drew HR.out)).mono ?_; rintro e w2 ⟨rfl, hb⟩; have hk := Aside0.mk (blk_below (blk_drew K1.out) hb); have d0 : w2.cell? ⟨w.heap.size, 0, none⟩ = some (.int .i64 b) := (blk_cell hk.out 0).trans rfl; have d1 : w2.cell? ⟨w.heap.size, 1, none⟩ = some (.slice (some ad) l.length c) := (blk_cell hk.out 1).trans rfl; have HB := Aside0.mk (below_step (below_drew B1.out) hb); clear hb)
  all_goals
    clear hw
    go_wp2
    go_ret
    exact ⟨by congr 2 <;> omega, HB.out⟩
set_option maxHeartbeats 1000000 in
theorem block_last (h1 : 1 ≤ b) (h2 : b ≤ 10) (hl : l.length ≤ 1000000) {ad : Addr} {i : Nat} (hi : i * wd b < l.length) (ht : l.length < i * wd b + wd b) (hr : Kd.C (Kd.int .i64) w (some ad) l.length l) (hc : l.length ≤ c) :
    Calls Try.prog 28 #[.agg #[.int .i64 b, .slice (some ad) l.length c], .int .i64 i] w fun e w' => e = .returned (.slice (some (ad.add (i * wd b))) (sz l.length (wd b) i) (sz l.length (wd b) i)) ∧ Below w.heap.size w w' := by
  have B1 := Aside0.mk (below_alloc (Below.refl w.heap.size w) (.cells #[.int .i64 b, .slice (some ad) l.length c] 25))
  have K1 := Aside0.mk (blk_new w (.cells #[.int .i64 b, .slice (some ad) l.length c] 25))
  have HR := Aside0.mk (Kd.C_below hr B1.out)
  obtain ⟨w1, w2, w3⟩ := wd_is h1 h2
  have hz : sz l.length (wd b) i = l.length - i * wd b := by unfold sz; omega
  rw [hz]
  have hm : (i : Int) * (wd b : Int) = ((i * wd b : Nat) : Int) := by simp
  generalize i * wd b = f at *
  have W := Aside0.mk (fun (w : World) (hr : Kd.C (Kd.int .i64) w (some ad) l.length l) => wide_any (w := w) h1 h2 hr hc)
  generalize wd b = wi at *
  clear hr w3 h1 h2
  go_enter Try.func28, Try.ntmps28
  have K1_c0 : (_ : Option Value) = some (.int .i64 b) := (blk_cell K1.out 0).trans rfl
  have K1_c1 : (_ : Option Value) = some (.slice (some ad) l.length c) := (blk_cell K1.out 1).trans rfl
  go_wp2_with fail
  refine (W.out _ HR.out).mono ?_
  rintro e w1 ⟨rfl, hw⟩
  have hb := hw
  clear hw
  replace HR := Aside0.mk (Kd.C_below HR.out hb)
  replace B1 := Aside0.mk (below_step B1.out hb)
  replace K1 := Aside0.mk (blk_below K1.out hb)
  replace K1_c0 : (_ : Option Value) = some (.int .i64 b) := (blk_cell K1.out 0).trans rfl
  replace K1_c1 : (_ : Option Value) = some (.slice (some ad) l.length c) := (blk_cell K1.out 1).trans rfl
  clear hb
  go_wp2_with fail
  have hw : IntKind.i64.wrap ((f : Int) + wi) = (f : Int) + wi := IntWalk.i64_in _ (by omega)
  have hlt : (l.length : Int) < (f : Int) + wi := by omega
  go_region_with (go_at_call 34; refine (W.out _ (Kd.C_drew HR.out)).mono ?_; rintro e w2 ⟨rfl, hb⟩; have hk := Aside0.mk (blk_below (blk_drew K1.out) hb); have d0 : w2.cell? ⟨w.heap.size, 0, none⟩ = some (.int .i64 b) := (blk_cell hk.out 0).trans rfl; have d1 : w2.cell? ⟨w.heap.size, 1, none⟩ = some (.slice (some ad) l.length c) := (blk_cell hk.out 1).trans rfl; have HB := Aside0.mk (below_step (below_drew B1.out) hb); clear hb)
  all_goals
    clear hw
    go_wp2
    go_ret
    exact ⟨by congr 2 <;> omega, HB.out⟩
theorem block_any (h1 : 1 ≤ b) (h2 : b ≤ 10) (hl : l.length ≤ 1000000) {ad : Addr} {i : Nat} (hi : i * wd b < l.length) (hr : Kd.C (Kd.int .i64) w (some ad) l.length l) (hc : l.length ≤ c) :
    Calls Try.prog 28 #[.agg #[.int .i64 b, .slice (some ad) l.length c], .int .i64 i] w fun e w' => e = .returned (.slice (some (ad.add (i * wd b))) (sz l.length (wd b) i) (sz l.length (wd b) i)) ∧ Below w.heap.size w w' := by
  by_cases h : i * wd b + wd b ≤ l.length
  · exact block_in h1 h2 hl hi h hr hc
  · exact block_last h1 h2 hl hi (by omega) hr hc
end Go.Proofs.Ythhmiieimfdffaa.C5
