/- Walks of bfs.Of: the layout of keys, in memory of its own; up to 65536 keys. -/
import Derived.Test.YtmjfnifdgneooaaA8
import Derived.Test.YtmjfnifdgneooaaB5
import Derived.StillTailTactics
namespace Go.Proofs.Ytmjfnifdgneooaa.A9
open Go.RowKit Go.Proofs.YtmjfnifdgneooaaW.PrintWords Go.Proofs.YtmjfnifdgneooaaW.PrintLast Go.Proofs.YtmjfnifdgneooaaW.PrintMore B1 A1 B2 B3 B4 B5 A8
set_option linter.unusedVariables false
set_option linter.unusedSimpArgs false

/-- What holds while a layout is filled. -/
structure OfI (w0 : World) (A : Option Addr) (c : Nat) (keys : List Int) (q1 q2 q3 g : Nat) (q4 : Nat) (o4 : Obj) (pre : List Nat) (W : World) : Prop where
  below : Below w0.heap.size w0 W
  k1 : W.heap[q1]? = some (.cells #[.slice A keys.length c] 22 (0, 0))
  k2 : W.heap[q2]? = some (.cells #[.int .i64 pre.length] 3 (0, 0))
  k3 : W.heap[q3]? = some (.cells #[.slice (some ⟨g, 0, none⟩) keys.length keys.length] 43 (0, 0))
  k4 : W.heap[g]? = some (.cells (nums .i64 (fill keys pre 0 (List.replicate keys.length 0))).toArray 3 (0, 0))
  k5 : W.heap[q4]? = some o4

theorem obj_far {w : World} {g : Nat} {o : Obj} (h : w.heap[g]? = some o) {p : Addr} (hp : g ≠ p.block) (u : Value) : (w.setCell p u).heap[g]? = some o := (Below.heap_setCell _ _ _ _ hp).trans h
theorem nums_set (l : List Int) (p : Nat) (v : Int) : (nums .i64 l).toArray.setIfInBounds p (.int .i64 v) = (nums .i64 (l.set p v)).toArray := by
  simp [nums, List.map_set]
theorem OfI.drew {w0 : World} {A : Option Addr} {c : Nat} {keys : List Int} {q1 q2 q3 g q4 : Nat} {o4 : Obj} {pre : List Nat} {W : World} (h : OfI w0 A c keys q1 q2 q3 g q4 o4 pre W) : OfI w0 A c keys q1 q2 q3 g q4 o4 pre W.drew :=
  ⟨below_drew h.below, h.k1, h.k2, h.k3, h.k4, h.k5⟩
theorem OfI.step {w0 : World} {A : Option Addr} {c : Nat} {keys : List Int} {q1 q2 q3 g q4 : Nat} {o4 : Obj} {pre : List Nat} {W : World} (h : OfI w0 A c keys q1 q2 q3 g q4 o4 pre W)
    (b2 : w0.heap.size ≤ q2) (bg : w0.heap.size ≤ g) (n12 : q1 ≠ q2) (n32 : q3 ≠ q2) (ng2 : g ≠ q2) (n1g : q1 ≠ g) (n3g : q3 ≠ g) (n42 : q4 ≠ q2) (n4g : q4 ≠ g) (p : Nat) :
    OfI w0 A c keys q1 q2 q3 g q4 o4 (pre ++ [p]) ((W.setCell ⟨g, p, none⟩ (.int .i64 (keys.getD pre.length 0))).setCell ⟨q2, 0, none⟩ (.int .i64 ((pre.length : Int) + 1))) := by
  refine ⟨(h.below.setCell (p := ⟨g, p, none⟩) bg _).setCell (p := ⟨q2, 0, none⟩) b2 _, blk_far (blk_far h.k1 n1g _) n12 _, ?_, blk_far (blk_far h.k3 n3g _) n32 _, ?_, obj_far (obj_far h.k5 n4g _) n42 _⟩
  · have := blk_set (blk_far h.k2 (p := ⟨g, p, none⟩) (fun e => ng2 e.symm) (.int .i64 (keys.getD pre.length 0))) 0 (.int .i64 ((pre.length : Int) + 1))
    rw [this]
    simp
  · have := blk_far (blk_set h.k4 p (.int .i64 (keys.getD pre.length 0))) (p := ⟨q2, 0, none⟩) ng2 (.int .i64 ((pre.length : Int) + 1))
    rw [this, nums_set, fill_snoc, Nat.zero_add]
theorem upper_set {B : Nat} {w w' : World} (h : Upper B w w') {a : Addr} (ha : a.block < B) (v : Value) : Upper B w (w'.setCell a v) :=
  h.trans ⟨by simp [World.setCell], fun k h1 h2 => Below.heap_setCell _ _ _ _ (by omega)⟩

set_option maxHeartbeats 400000 in
theorem ofTell_any (w0 : World) (A : Option Addr) (c : Nat) (keys : List Int) (q1 q2 q3 g q4 : Nat) (o4 : Obj) (hC : Kd.C (Kd.int .i64) w0 A keys.length keys) (hlen : keys.length ≤ 1000000)
    (b2 : w0.heap.size ≤ q2) (bg : w0.heap.size ≤ g) (n12 : q1 ≠ q2) (n32 : q3 ≠ q2) (ng2 : g ≠ q2) (n1g : q1 ≠ g) (n3g : q3 ≠ g) (n42 : q4 ≠ q2) (n4g : q4 ≠ g) (B : Nat) (hB2 : q2 < B) (hBg : g < B)
    (pre : List Nat) (p : Nat) (post : List Nat) (W : World) (hall : inOrd keys.length 0 = pre ++ p :: post) (hI : OfI w0 A c keys q1 q2 q3 g q4 o4 pre W) (hBW : B ≤ W.heap.size) :
    Calls Try.prog 39 #[.int .i64 (p : Nat), .pointer (some ⟨q1, 0, none⟩), .pointer (some ⟨q2, 0, none⟩), .pointer (some ⟨q3, 0, none⟩)] W fun e w' => e = .returned (.tuple #[]) ∧ OfI w0 A c keys q1 q2 q3 g q4 o4 (pre ++ [p]) w' ∧ Upper B W w' := by
  have hz := length_zero keys.length
  have hl := congrArg List.length hall
  rw [hz, List.length_append, List.length_cons] at hl
  have hp : p < keys.length := (mem_ord.1 (show p ∈ inOrd keys.length 0 by rw [hall]; simp)).1
  have hj : pre.length < keys.length := by omega
  obtain ⟨ad, e, hx⟩ := Kd.at_int (Kd.C_below hC hI.below) (pre.length : Int) (by omega) (by omega)
  cases e
  rw [Int.toNat_natCast] at hx
  have HI := Aside0.mk hI
  have c1 : W.cell? ⟨q1, 0, none⟩ = some (.slice (some ad) keys.length c) := (blk_cell hI.k1 0).trans rfl
  have c2 : W.cell? ⟨q2, 0, none⟩ = some (.int .i64 pre.length) := (blk_cell hI.k2 0).trans rfl
  have c3 : W.cell? ⟨q3, 0, none⟩ = some (.slice (some ⟨g, 0, none⟩) keys.length keys.length) := (blk_cell hI.k3 0).trans rfl
  clear hI hall hl hz
  generalize hr : rd keys pre.length = v at hx
  go_enter Try.func39, Try.ntmps39
  go_wp2
  go_still_tail 8, (by kernel_rfl)
  change wpList _ _ _ _ _ W.drew
  have r4 : W.drew.heap[g]? = some (.cells (nums .i64 (fill keys pre 0 (List.replicate keys.length 0))).toArray 3 (0, 0)) := HI.out.k4
  have r2 : W.drew.heap[q2]? = some (.cells #[.int .i64 pre.length] 3 (0, 0)) := HI.out.k2
  have hrow : (fill keys pre 0 (List.replicate keys.length 0)).length = keys.length := by rw [fill_length]; simp
  obtain ⟨x0, c4⟩ : ∃ x0, W.drew.cell? ⟨g, p, none⟩ = some (.int .i64 x0) := ⟨(fill keys pre 0 (List.replicate keys.length 0)).getD p 0, by
    rw [blk_cell r4 p]
    simp [nums, List.getD_eq_getElem?_getD, hrow, hp]⟩
  have f4 := blk_frozen r4 p
  have s2 := blk_far r2 (p := ⟨g, p, none⟩) (fun e => ng2 e.symm) (.int .i64 v)
  have d2 : (W.drew.setCell ⟨g, p, none⟩ (.int .i64 v)).cell? ⟨q2, 0, none⟩ = some (.int .i64 pre.length) := (blk_cell s2 0).trans rfl
  have e2 := blk_frozen s2 0
  clear c1 c2 c3 hx
  have HR := Aside0.mk (And.intro r2 (And.intro r4 (And.intro s2 hrow)))
  clear r2 r4 s2 hrow
  have U0 : Aside0 (Upper B W W.drew) := ⟨⟨Nat.le_refl _, fun _ _ _ => rfl⟩⟩
  have HD := Aside0.mk HI.out.drew
  have HV := Aside0.mk hr
  clear hr HI HR
  generalize W.drew = w2 at *
  go_wp2
  go_end0
  exact ⟨rfl, by rw [← HV.out]; exact HD.out.step b2 bg n12 n32 ng2 n1g n3g n42 n4g p, upper_set (upper_set U0.out hBg _) hB2 _⟩
end Go.Proofs.Ytmjfnifdgneooaa.A9
