/- Walks of block.Of: the layout of keys, in memory of its own; up to 1000000 keys. -/
import Derived.Test.YthhmiieimfdffaaC7
import Derived.Deep.QuietTactic
import Derived.BigQuiet
namespace Go.Proofs.Ythhmiieimfdffaa.C8
open Go.RowKit Go.Proofs.YthhmiieimfdffaaW.PrintWords Go.Proofs.YthhmiieimfdffaaW.PrintLast Go.Proofs.YthhmiieimfdffaaW.PrintMore C1 C2 C3 C4 C5 C6 C7 Q1
set_option linter.unusedVariables false
set_option linter.unusedSimpArgs false

/-- A row known whole is read. -/
theorem C_of_blk {w : World} {g : Nat} {l : List Int} (h : w.heap[g]? = some (.cells (nums .i64 l).toArray 3 (0, 0))) (hl : l.length ≤ 1000000000) : Kd.C (Kd.int .i64) w (some ⟨g, 0, none⟩) l.length l := by
  refine ⟨rfl, by omega, fun _ => ⟨_, rfl, fun j p hp => ⟨[.int .i64 p], rfl, rfl, fun i u hu => ?_⟩⟩⟩
  obtain ⟨rfl, rfl⟩ : i = 0 ∧ u = .int .i64 p := by
    cases i with
    | zero => exact ⟨rfl, by simpa using hu.symm⟩
    | succ i => simp at hu
  rw [add_plain]
  refine (blk_cell h _).trans ?_
  show (nums .i64 l).toArray[j * 1 + 0]? = _
  simp [nums, hp]
/-- What holds while a layout is filled. -/
structure OfI (w0 : World) (A : Option Addr) (c : Nat) (keys : List Int) (b q1 q2 q3 g : Nat) (q4 : Nat) (o4 : Obj) (pre : List Nat) (W : World) : Prop where
  below : Below w0.heap.size w0 W
  k1 : W.heap[q1]? = some (.cells #[.slice A keys.length c] 22 (0, 0))
  k2 : W.heap[q2]? = some (.cells #[.int .i64 pre.length] 3 (0, 0))
  k3 : W.heap[q3]? = some (.cells #[.int .i64 b, .slice (some ⟨g, 0, none⟩) keys.length keys.length] 25 (0, 0))
  k4 : W.heap[g]? = some (.cells (nums .i64 (fill keys pre 0 (List.replicate keys.length 0))).toArray 3 (0, 0))
  k5 : W.heap[q4]? = some o4

theorem obj_far {w : World} {g : Nat} {o : Obj} (h : w.heap[g]? = some o) {p : Addr} (hp : g ≠ p.block) (u : Value) : (w.setCell p u).heap[g]? = some o := (Below.heap_setCell _ _ _ _ hp).trans h
theorem nums_set (l : List Int) (p : Nat) (v : Int) : (nums .i64 l).toArray.setIfInBounds p (.int .i64 v) = (nums .i64 (l.set p v)).toArray := by
  simp [nums, List.map_set]
theorem OfI.on {w0 : World} {A : Option Addr} {c : Nat} {keys : List Int} {b q1 q2 q3 g q4 : Nat} {o4 : Obj} {pre : List Nat} {W W' : World} (h : OfI w0 A c keys b q1 q2 q3 g q4 o4 pre W) (hb : Below W.heap.size W W') : OfI w0 A c keys b q1 q2 q3 g q4 o4 pre W' :=
  ⟨below_step h.below hb, blk_below h.k1 hb, blk_below h.k2 hb, blk_below h.k3 hb, blk_below h.k4 hb, blk_below h.k5 hb⟩
theorem OfI.step {w0 : World} {A : Option Addr} {c : Nat} {keys : List Int} {b q1 q2 q3 g q4 : Nat} {o4 : Obj} {pre : List Nat} {W : World} (h : OfI w0 A c keys b q1 q2 q3 g q4 o4 pre W)
    (b2 : w0.heap.size ≤ q2) (bg : w0.heap.size ≤ g) (n12 : q1 ≠ q2) (n32 : q3 ≠ q2) (ng2 : g ≠ q2) (n1g : q1 ≠ g) (n3g : q3 ≠ g) (n42 : q4 ≠ q2) (n4g : q4 ≠ g) (p : Nat) :
    OfI w0 A c keys b q1 q2 q3 g q4 o4 (pre ++ [p]) ((W.setCell ⟨g, p, none⟩ (.int .i64 (keys.getD pre.length 0))).setCell ⟨q2, 0, none⟩ (.int .i64 ((pre.length : Int) + 1))) := by
  refine ⟨(h.below.setCell (p := ⟨g, p, none⟩) bg _).setCell (p := ⟨q2, 0, none⟩) b2 _, blk_far (blk_far h.k1 n1g _) n12 _, ?_, blk_far (blk_far h.k3 n3g _) n32 _, ?_, obj_far (obj_far h.k5 n4g _) n42 _⟩
  · have := blk_set (blk_far h.k2 (p := ⟨g, p, none⟩) (fun e => ng2 e.symm) (.int .i64 (keys.getD pre.length 0))) 0 (.int .i64 ((pre.length : Int) + 1))
    rw [this]
    simp
  · have := blk_far (blk_set h.k4 p (.int .i64 (keys.getD pre.length 0))) (p := ⟨q2, 0, none⟩) ng2 (.int .i64 ((pre.length : Int) + 1))
    rw [this, nums_set, fill_snoc, Nat.zero_add]
theorem upper_set {B : Nat} {w w' : World} (h : Upper B w w') {a : Addr} (ha : a.block < B) (v : Value) : Upper B w (w'.setCell a v) :=
  h.trans ⟨by simp [World.setCell], fun k h1 h2 => Below.heap_setCell _ _ _ _ (by omega)⟩

set_option maxHeartbeats 400000 in
theorem ofTell_any (w0 : World) (A : Option Addr) (c : Nat) (keys : List Int) (b q1 q2 q3 g q4 : Nat) (o4 : Obj) {wi : Nat} (hwi : 0 < wi) (hC : Kd.C (Kd.int .i64) w0 A keys.length keys) (hlen : keys.length ≤ 1000000)
    (b2 : w0.heap.size ≤ q2) (bg : w0.heap.size ≤ g) (n12 : q1 ≠ q2) (n32 : q3 ≠ q2) (ng2 : g ≠ q2) (n1g : q1 ≠ g) (n3g : q3 ≠ g) (n42 : q4 ≠ q2) (n4g : q4 ≠ g) (B : Nat) (hB2 : q2 < B) (hBg : g < B)
    (pre : List Nat) (p : Nat) (post : List Nat) (W : World) (hall : ord keys.length wi 0 = pre ++ p :: post) (hI : OfI w0 A c keys b q1 q2 q3 g q4 o4 pre W) (hBW : B ≤ W.heap.size) :
    Calls Try.prog 22 #[.int .i64 (p : Nat), .pointer (some ⟨q1, 0, none⟩), .pointer (some ⟨q2, 0, none⟩), .pointer (some ⟨q3, 0, none⟩)] W fun e w' => e = .returned (.tuple #[]) ∧ OfI w0 A c keys b q1 q2 q3 g q4 o4 (pre ++ [p]) w' ∧ Upper B W w' := by
  have hz := length_zero (n := keys.length) hwi
  have hl := congrArg List.length hall
  rw [hz, List.length_append, List.length_cons] at hl
  have hp : p < keys.length := ((mem_ord hwi).1 (show p ∈ ord keys.length wi 0 by rw [hall]; simp)).1
  have hj : pre.length < keys.length := by omega
  obtain ⟨ad, e, hx⟩ := Kd.at_int (Kd.C_below hC hI.below) (pre.length : Int) (by omega) (by omega)
  cases e
  rw [Int.toNat_natCast] at hx
  have HI := Aside0.mk hI
  have c1 : W.cell? ⟨q1, 0, none⟩ = some (.slice (some ad) keys.length c) := (blk_cell hI.k1 0).trans rfl
  have c2 : W.cell? ⟨q2, 0, none⟩ = some (.int .i64 pre.length) := (blk_cell hI.k2 0).trans rfl
  have c3 : W.cell? ⟨q3, 1, none⟩ = some (.slice (some ⟨g, 0, none⟩) keys.length keys.length) := (blk_cell hI.k3 1).trans rfl
  clear hI hall hl hz
  generalize hr : rd keys pre.length = v at hx
  go_enter Try.func22, Try.ntmps22
  go_wp2
  go_still_tail 8, (by kernel_rfl)
  change wpList _ _ _ _ _ W.drew
  have r4 : W.drew.heap[g]? = some (.cells (nums .i64 (fill keys pre 0 (List.replicate keys.length 0))).toArray 3 (0, 0)) := HI.out.k4
  have r2 : W.drew.heap[q2]? = some (.cells #[.int .i64 pre.length] 3 (0, 0)) := HI.out.k2
  have hrow : (fill keys pre 0 (List.replicate keys.length 0)).length = keys.length := by rw [fill_length]; simp
  obtain ⟨x0, c4⟩ : ∃ x0, W.drew.cell? ⟨g, p, none⟩ = some (.int .i64 x0) := ⟨(fill keys pre 0 (List.replicate keys.length 0)).getD p 0, by
    rw [blk_cell r4 p]
    simp [nums, List.getD_eq_getElem?_getD, hrow, hp]⟩
  have f4 := blk_frozen r4 p
  have s2 := blk_far r2 (p := ⟨g, p, none⟩) (fun e => ng2 e.symm) (.int .i64 v)
  have d2 : (W.drew.setCell ⟨g, p, none⟩ (.int .i64 v)).cell? ⟨q2, 0, none⟩ = some (.int .i64 pre.length) := (blk_cell s2 0).trans rfl
  have e2 := blk_frozen s2 0
  clear c1 c2 c3 hx
  have HR := Aside0.mk (And.intro r2 (And.intro r4 (And.intro s2 hrow)))
  clear r2 r4 s2 hrow
  have U0 : Aside0 (Upper B W W.drew) := ⟨⟨Nat.le_refl _, fun _ _ _ => rfl⟩⟩
  have HD := Aside0.mk (HI.out.on (below_drew (Below.refl _ _)))
  have HV := Aside0.mk hr
  clear hr HI HR
  generalize W.drew = w2 at *
  go_wp2
  go_end0
  exact ⟨rfl, by rw [← HV.out]; exact HD.out.step b2 bg n12 n32 ng2 n1g n3g n42 n4g p, upper_set (upper_set U0.out hBg _) hB2 _⟩

theorem info_int : (Try.prog.info? 3).map (fun i => (i.zero, i.size, i.bytes)) = some (some (.int .i64 0), 1, 8) := by kernel_rfl
theorem size_lay : (Try.prog.info? 25).map (·.size) = some 2 := by kernel_rfl
theorem made_nums (n : Nat) : madeCells #[.int .i64 0] n = (nums .i64 (List.replicate n 0)).toArray := by
  apply Array.ext
  · simp [size_madeCells, nums]
  · intro i h1 h2
    simp [madeCells, nums, Nat.mod_one]
/-- Of a new layout and an error's number. -/
theorem end_of {w2 : World} {tm : Array Value} (bi s : Value) (e : Int) (g : Nat) (hp : tm.getD 4 undef = .pointer (some ⟨g, 0, none⟩)) (hg : w2.heap[g]? = some (.cells #[bi, s] 25 (0, 0))) (h3 : tm.getD 5 undef = .int .i64 e) :
    (results Try.f8 tm).run Try.prog w2 = .ok (.tuple #[.agg #[bi, s], .int .i64 e]) w2 := by
  have h := results_ct (P := Try.prog) (fn := Try.f8) (p := 4) (u := 5) (ty := 25) rfl tm w2 g 25 #[bi, s] (0, 0) _ hp hg Try.underlying25 rfl size_lay
  rw [h3] at h
  exact h
/-- Keys rise up to one. -/
def Upto (l : List Int) (i : Nat) : Prop := ∀ j, j + 1 < i → j + 1 < l.length → l.getD j 0 < l.getD (j + 1) 0

set_option maxHeartbeats 400000 in
theorem of_range (A0 : Option Addr) (c0 : Nat) (l : List Int) (b : Int) (w : World) (hr : Kd.C (Kd.int .i64) w A0 l.length l) (hc : l.length ≤ c0) (hb : bitsB b = false) :
    Calls Try.prog 8 #[.slice A0 l.length c0, .int .i64 b] w fun e w' => e = .returned (.tuple #[.agg #[.int .i64 0, .slice none 0 0], .int .i64 10]) ∧ Below w.heap.size w w' := by
  have B1 : Below w.heap.size w ((w.alloc (.cells #[.slice A0 l.length c0] 22)).alloc (.cells #[.int .i64 0, .slice none 0 0] 25)) := ((Below.refl _ _).alloc (Nat.le_refl _) _).alloc (by simp) _
  have HR := Aside0.mk (Kd.C_below hr B1)
  have HB := Aside0.mk B1
  have k1 := blk_alloc (blk_new w (.cells #[.slice A0 l.length c0] 22)) (.cells #[.int .i64 0, .slice none 0 0] 25)
  have k2 := blk_new (w.alloc (.cells #[.slice A0 l.length c0] 22)) (.cells #[.int .i64 0, .slice none 0 0] 25)
  simp only [World.size_alloc] at k2
  have K1 := Aside0.mk k1
  have K2 := Aside0.mk k2
  have H := Aside0.mk (right_any b)
  rw [hb] at H
  clear hr B1 k1 k2 hb
  go_enter Try.func8, Try.ntmps8
  go_wp2_with fail
  refine (H.out _).mono ?_
  rintro e w1 ⟨rfl, hw⟩
  replace K1 := Aside0.mk (blk_below K1.out hw.below)
  replace K2 := Aside0.mk (blk_below K2.out hw.below)
  replace HR := Aside0.mk (Kd.C_below HR.out hw.below)
  replace HB := Aside0.mk (below_step HB.out hw.below)
  have c1 : w1.cell? ⟨w.heap.size, 0, none⟩ = some (.slice A0 l.length c0) := (blk_cell K1.out 0).trans rfl
  have c2 : w1.cell? ⟨w.heap.size + 1, 0, none⟩ = some (.int .i64 0) := (blk_cell K2.out 0).trans rfl
  have c3 : w1.cell? ⟨w.heap.size + 1, 1, none⟩ = some (.slice none 0 0) := (blk_cell K2.out 1).trans rfl
  have f2 := blk_frozen K2.out 0
  have f3 := blk_frozen K2.out 1
  clear hw H
  go_wp2
  have k3 : (((w1.setCell ⟨w.heap.size + 1, 0, none⟩ (.int .i64 0)).setCell ⟨w.heap.size + 1, 1, none⟩ (.slice none 0 0))).heap[w.heap.size + 1]? = some (.cells #[.int .i64 0, .slice none 0 0] 25 (0, 0)) := blk_set (blk_set K2.out 0 (.int .i64 0)) 1 (.slice none 0 0)
  exact bodyPost_ret (end_of _ _ _ _ rfl k3 rfl) rfl ⟨rfl, (HB.out.setCell (p := ⟨w.heap.size + 1, 0, none⟩) (by simp) _).setCell (p := ⟨w.heap.size + 1, 1, none⟩) (by simp) _⟩
set_option maxHeartbeats 1000000 in
theorem of_order (A0 : Option Addr) (c0 : Nat) (l : List Int) (b : Int) (w : World) (hr : Kd.C (Kd.int .i64) w A0 l.length l) (hc : l.length ≤ c0) (hlen : l.length ≤ 1000000) (hb : bitsB b = true) (h : risingB l = false) :
    Calls Try.prog 8 #[.slice A0 l.length c0, .int .i64 b] w fun e w' => e = .returned (.tuple #[.agg #[.int .i64 0, .slice none 0 0], .int .i64 18]) ∧ Below w.heap.size w w' := by
  have HH := Aside0.mk h
  clear h
  have B1 : Below w.heap.size w ((w.alloc (.cells #[.slice A0 l.length c0] 22)).alloc (.cells #[.int .i64 0, .slice none 0 0] 25)) := ((Below.refl _ _).alloc (Nat.le_refl _) _).alloc (by simp) _
  have HR := Aside0.mk (Kd.C_below hr B1)
  have HB := Aside0.mk B1
  have k1 := blk_alloc (blk_new w (.cells #[.slice A0 l.length c0] 22)) (.cells #[.int .i64 0, .slice none 0 0] 25)
  have k2 := blk_new (w.alloc (.cells #[.slice A0 l.length c0] 22)) (.cells #[.int .i64 0, .slice none 0 0] 25)
  simp only [World.size_alloc] at k2
  have K1 := Aside0.mk k1
  have K2 := Aside0.mk k2
  have H := Aside0.mk (right_any b)
  rw [hb] at H
  clear hr B1 k1 k2 hb
  go_enter Try.func8, Try.ntmps8
  go_wp2_with fail
  refine (H.out _).mono ?_
  rintro e w1 ⟨rfl, hw⟩
  replace K1 := Aside0.mk (blk_below K1.out hw.below)
  replace K2 := Aside0.mk (blk_below K2.out hw.below)
  replace HR := Aside0.mk (Kd.C_below HR.out hw.below)
  replace HB := Aside0.mk (below_step HB.out hw.below)
  have c1 : w1.cell? ⟨w.heap.size, 0, none⟩ = some (.slice A0 l.length c0) := (blk_cell K1.out 0).trans rfl
  have c2 : w1.cell? ⟨w.heap.size + 1, 0, none⟩ = some (.int .i64 0) := (blk_cell K2.out 0).trans rfl
  have c3 : w1.cell? ⟨w.heap.size + 1, 1, none⟩ = some (.slice none 0 0) := (blk_cell K2.out 1).trans rfl
  have f2 := blk_frozen K2.out 0
  have f3 := blk_frozen K2.out 1
  clear hw H
  go_wp2
  clear c1 c2 c3 f2 f3
  go_loopg [6] l.length (fun kq v6 w' => ∃ i : Nat, v6 = .int .i64 i ∧ 1 ≤ i ∧ i ≤ l.length + 1 ∧ Aside0 (kq = l.length + 1 - i) ∧ Aside0 (Upto l i) ∧ Aside0 (Kd.C (Kd.int .i64) w' A0 l.length l) ∧ Aside0 (Below w.heap.size w w') ∧ Aside0 (w'.heap[w.heap.size]? = some (.cells #[.slice A0 l.length c0] 22 (0, 0))) ∧ Aside0 (w'.heap[w.heap.size + 1]? = some (.cells #[.int .i64 0, .slice none 0 0] 25 (0, 0))))
  case atStart => exact ⟨1, rfl, by omega, by omega, ⟨by omega⟩, ⟨fun j hj _ => by omega⟩, HR, HB, K1, K2⟩
  case round =>
    clear HR HB K1 K2
    obtain ⟨i, rfl, hi1, hi2, HQ, HU, HR, HB, K1, K2⟩ := hrel
    have c1 : (_ : Option Value) = some (.slice A0 l.length c0) := (blk_cell K1.out 0).trans rfl
    have hil : i < l.length := by
      refine Nat.lt_of_not_le fun hn => ?_
      have ht : risingB l = true := by
        rw [rising_iff]
        intro j hj
        have hu := HU.out
        unfold Upto at hu
        exact hu j (by omega) hj
      rw [HH.out] at ht
      cases ht
    obtain ⟨ad, e, hx⟩ := Kd.at_int HR.out ((i - 1 : Nat) : Int) (by omega) (by omega)
    cases e
    obtain ⟨ad', e, hy⟩ := Kd.at_int HR.out (i : Int) (by omega) (by omega)
    cases e
    rw [Int.toNat_natCast] at hx hy
    rw [show rd l ((i - 1 : Nat) : Int) = l.getD (i - 1) 0 from rfl] at hx
    rw [show rd l (i : Int) = l.getD i 0 from rfl] at hy
    by_cases hv : l.getD i 0 ≤ l.getD (i - 1) 0
    · generalize l.getD (i - 1) 0 = x at *
      generalize l.getD i 0 = y at *
      have hd : decide (y ≤ x) = true := decide_eq_true hv
      have c2 : (_ : Option Value) = some (.int .i64 0) := (blk_cell K2.out 0).trans rfl
      have c3 : (_ : Option Value) = some (.slice none 0 0) := (blk_cell K2.out 1).trans rfl
      go_wp2_with fail
      have q1 : 0 ≤ (i : Int) - 1 := by omega
      have q2 : (i : Int) - 1 < l.length := by omega
      have q0 : 1 ≤ (i : Int) := by omega
      have q5 : i - 1 < l.length := by omega
      have q3 : ((i : Int) - 1).toNat = i - 1 := by omega
      have q4 : IntKind.i64.wrap ((i : Int) - 1) = (i : Int) - 1 := IntWalk.i64_in _ (by omega)
      go_quiet (fail)
      clear q3 q4 q2 q0 q1 q5 hx hy c1
      replace HR := Aside0.mk (Kd.C_drewN HR.out nq)
      replace HB := Aside0.mk (pw_below_drewN HB.out nq)
      replace K1 := Aside0.mk (blk_drewN K1.out nq)
      replace K2 := Aside0.mk (blk_drewN K2.out nq)
      have f2 := blk_frozen K2.out 0
      have f3 := blk_frozen K2.out 1
      go_wp2
      have k3 : (_ : Option Obj) = some (.cells #[.int .i64 0, .slice none 0 0] 25 (0, 0)) := blk_set (blk_set K2.out 0 (.int .i64 0)) 1 (.slice none 0 0)
      exact bodyPost_ret (end_of _ _ _ _ rfl k3 rfl) rfl ⟨rfl, (HB.out.setCell (p := ⟨w.heap.size + 1, 0, none⟩) (by simp) _).setCell (p := ⟨w.heap.size + 1, 1, none⟩) (by simp) _⟩
    · have HN : Aside0 (Upto l (i + 1)) := ⟨fun j hj hjl => by
        by_cases e : j + 1 = i
        · have e2 : j = i - 1 := by omega
          rw [e, e2]
          omega
        · exact HU.out j (by omega) hjl⟩
      generalize l.getD (i - 1) 0 = x at *
      generalize l.getD i 0 = y at *
      have hd : decide (y ≤ x) = false := decide_eq_false hv
      go_wp2_with fail
      have q1 : 0 ≤ (i : Int) - 1 := by omega
      have q2 : (i : Int) - 1 < l.length := by omega
      have q0 : 1 ≤ (i : Int) := by omega
      have q5 : i - 1 < l.length := by omega
      have q3 : ((i : Int) - 1).toNat = i - 1 := by omega
      have q4 : IntKind.i64.wrap ((i : Int) - 1) = (i : Int) - 1 := IntWalk.i64_in _ (by omega)
      go_quiet (fail)
      clear q3 q4 q2 q0 q1 q5 hx hy c1
      replace HR := Aside0.mk (Kd.C_drewN HR.out nq)
      replace HB := Aside0.mk (pw_below_drewN HB.out nq)
      replace K1 := Aside0.mk (blk_drewN K1.out nq)
      replace K2 := Aside0.mk (blk_drewN K2.out nq)
      go_wp2
      go_roundg (l.length + 1 - (i + 1))
      case measure => have := HQ.out; omega
      case rel => exact ⟨i + 1, by go_num, by omega, by omega, ⟨rfl⟩, HN, HR, HB, K1, K2⟩
set_option maxHeartbeats 4000000 in
theorem of_yes (A0 : Option Addr) (c0 : Nat) (l : List Int) (b : Nat) (w : World) (hr : Kd.C (Kd.int .i64) w A0 l.length l) (hc : l.length ≤ c0) (hlen : l.length ≤ 1000000) (h1 : 1 ≤ b) (h2 : b ≤ 10) (h : risingB l = true) :
    Calls Try.prog 8 #[.slice A0 l.length c0, .int .i64 b] w fun e w' => ∃ g, w.heap.size ≤ g ∧ e = .returned (.tuple #[.agg #[.int .i64 b, .slice (some ⟨g, 0, none⟩) l.length l.length], .int .i64 0]) ∧
      w'.heap[g]? = some (.cells (nums .i64 (layOf l (wd b))).toArray 3 (0, 0)) ∧ Below w.heap.size w w' := by
  have HH := Aside0.mk h
  have hb : bitsB b = true := decide_eq_true (by omega)
  obtain ⟨wi1, wi2, wi3⟩ := wd_is h1 h2
  have HC := Aside0.mk hr
  have HP := Aside0.mk (And.intro h1 (And.intro h2 wi1))
  clear h h1 h2 wi1 wi2 wi3
  have B1 : Below w.heap.size w ((w.alloc (.cells #[.slice A0 l.length c0] 22)).alloc (.cells #[.int .i64 0, .slice none 0 0] 25)) := ((Below.refl _ _).alloc (Nat.le_refl _) _).alloc (by simp) _
  have HR := Aside0.mk (Kd.C_below hr B1)
  have HB := Aside0.mk B1
  have k1 := blk_alloc (blk_new w (.cells #[.slice A0 l.length c0] 22)) (.cells #[.int .i64 0, .slice none 0 0] 25)
  have k2 := blk_new (w.alloc (.cells #[.slice A0 l.length c0] 22)) (.cells #[.int .i64 0, .slice none 0 0] 25)
  simp only [World.size_alloc] at k2
  have K1 := Aside0.mk k1
  have K2 := Aside0.mk k2
  have H := Aside0.mk (right_any b)
  rw [hb] at H
  clear hr B1 k1 k2 hb
  go_enter Try.func8, Try.ntmps8
  go_wp2_with fail
  refine (H.out _).mono ?_
  rintro e w1 ⟨rfl, hw⟩
  replace K1 := Aside0.mk (blk_below K1.out hw.below)
  replace K2 := Aside0.mk (blk_below K2.out hw.below)
  replace HR := Aside0.mk (Kd.C_below HR.out hw.below)
  replace HB := Aside0.mk (below_step HB.out hw.below)
  have c1 : w1.cell? ⟨w.heap.size, 0, none⟩ = some (.slice A0 l.length c0) := (blk_cell K1.out 0).trans rfl
  have c2 : w1.cell? ⟨w.heap.size + 1, 0, none⟩ = some (.int .i64 0) := (blk_cell K2.out 0).trans rfl
  have c3 : w1.cell? ⟨w.heap.size + 1, 1, none⟩ = some (.slice none 0 0) := (blk_cell K2.out 1).trans rfl
  have f2 := blk_frozen K2.out 0
  have f3 := blk_frozen K2.out 1
  clear hw H
  go_wp2
  clear c1 c2 c3 f2 f3
  go_loopg [6] l.length (fun kq v6 w' => ∃ i : Nat, v6 = .int .i64 i ∧ 1 ≤ i ∧ i ≤ l.length + 1 ∧ Aside0 (kq = l.length + 1 - i) ∧ Aside0 (Upto l i) ∧ Aside0 (Kd.C (Kd.int .i64) w' A0 l.length l) ∧ Aside0 (Below w.heap.size w w') ∧ Aside0 (w'.heap[w.heap.size]? = some (.cells #[.slice A0 l.length c0] 22 (0, 0))) ∧ Aside0 (w'.heap[w.heap.size + 1]? = some (.cells #[.int .i64 0, .slice none 0 0] 25 (0, 0))))
  case atStart => exact ⟨1, rfl, by omega, by omega, ⟨by omega⟩, ⟨fun j hj _ => by omega⟩, HR, HB, K1, K2⟩
  case round =>
    clear HR HB K1 K2
    obtain ⟨i, rfl, hi1, hi2, HQ, HU, HR, HB, K1, K2⟩ := hrel
    have c1 : (_ : Option Value) = some (.slice A0 l.length c0) := (blk_cell K1.out 0).trans rfl
    by_cases hil : i < l.length
    · obtain ⟨ad, e, hx⟩ := Kd.at_int HR.out ((i - 1 : Nat) : Int) (by omega) (by omega)
      cases e
      obtain ⟨ad', e, hy⟩ := Kd.at_int HR.out (i : Int) (by omega) (by omega)
      cases e
      rw [Int.toNat_natCast] at hx hy
      rw [show rd l ((i - 1 : Nat) : Int) = l.getD (i - 1) 0 from rfl] at hx
      rw [show rd l (i : Int) = l.getD i 0 from rfl] at hy
      have hv : ¬ l.getD i 0 ≤ l.getD (i - 1) 0 := by
        have := rising_lt HH.out (show i - 1 < i by omega) hil
        omega
      have HN : Aside0 (Upto l (i + 1)) := ⟨fun j hj hjl => rising_lt HH.out (by omega) hjl⟩
      generalize l.getD (i - 1) 0 = x at *
      generalize l.getD i 0 = y at *
      have hd : decide (y ≤ x) = false := decide_eq_false hv
      go_wp2_with fail
      have q1 : 0 ≤ (i : Int) - 1 := by omega
      have q2 : (i : Int) - 1 < l.length := by omega
      have q0 : 1 ≤ (i : Int) := by omega
      have q5 : i - 1 < l.length := by omega
      have q3 : ((i : Int) - 1).toNat = i - 1 := by omega
      have q4 : IntKind.i64.wrap ((i : Int) - 1) = (i : Int) - 1 := IntWalk.i64_in _ (by omega)
      go_quiet (fail)
      clear q3 q4 q2 q0 q1 q5 hx hy c1
      replace HR := Aside0.mk (Kd.C_drewN HR.out nq)
      replace HB := Aside0.mk (pw_below_drewN HB.out nq)
      replace K1 := Aside0.mk (blk_drewN K1.out nq)
      replace K2 := Aside0.mk (blk_drewN K2.out nq)
      go_wp2
      go_roundg (l.length + 1 - (i + 1))
      case measure => have := HQ.out; omega
      case rel => exact ⟨i + 1, by go_num, by omega, by omega, ⟨rfl⟩, HN, HR, HB, K1, K2⟩
    · have hs1 := blk_lt K2.out
      have hmk := print_make_int (P := Try.prog) 22 3 (.int .i64 0) 8 Try.underlying22 info_int rfl (by decide) (l.length : Int) (by omega) (by omega)
      simp only [Int.toNat_natCast] at hmk
      go_wp2_with fail
      have k4 := blk_new wr (.cells (madeCells #[.int .i64 0] l.length) 3)
      have k5 := blk_new (wr.alloc (.cells (madeCells #[.int .i64 0] l.length) 3)) (.cells #[.int .i64 b, .slice (some ⟨wr.heap.size, 0, none⟩) l.length l.length] 25)
      have k6 := blk_new ((wr.alloc (.cells (madeCells #[.int .i64 0] l.length) 3)).alloc (.cells #[.int .i64 b, .slice (some ⟨wr.heap.size, 0, none⟩) l.length l.length] 25)) (.cells #[.int .i64 0] 3)
      simp only [World.size_alloc] at k5 k6
      have I0 : OfI w A0 c0 l b w.heap.size (wr.heap.size + 1 + 1) (wr.heap.size + 1) wr.heap.size (w.heap.size + 1) (.cells #[.int .i64 0, .slice none 0 0] 25) [] (((wr.alloc (.cells (madeCells #[.int .i64 0] l.length) 3)).alloc (.cells #[.int .i64 b, .slice (some ⟨wr.heap.size, 0, none⟩) l.length l.length] 25)).alloc (.cells #[.int .i64 0] 3)) :=
        ⟨below_alloc (below_alloc (below_alloc HB.out _) _) _, blk_alloc (blk_alloc (blk_alloc K1.out _) _) _, k6, blk_alloc k5 _, by simp only [fill]; rw [← made_nums]; exact blk_alloc (blk_alloc k4 _) _, blk_alloc (blk_alloc (blk_alloc K2.out _) _) _⟩
      have II := Aside0.mk I0
      clear k4 k5 k6 I0 hmk c1
      generalize hW : (((wr.alloc (.cells (madeCells #[.int .i64 0] l.length) 3)).alloc (.cells #[.int .i64 b, .slice (some ⟨wr.heap.size, 0, none⟩) l.length l.length] 25)).alloc (.cells #[.int .i64 0] 3)) = WX at II ⊢
      have hWs : WX.heap.size = wr.heap.size + 3 := by rw [← hW]; simp
      clear hW
      have HW := Aside0.mk hWs
      clear hWs
      refine (order_any22 w.heap.size (wr.heap.size + 1 + 1) (wr.heap.size + 1) HP.out.1 HP.out.2.1 hlen (Nat.le_refl _) (OfI w A0 c0 l b w.heap.size (wr.heap.size + 1 + 1) (wr.heap.size + 1) wr.heap.size (w.heap.size + 1) (.cells #[.int .i64 0, .slice none 0 0] 25)) WX ?hI ?hC ?hT II.out).mono ?_
      case hI => exact fun pre W W' h hb => h.on hb
      case hC => exact fun pre W h => ⟨fill l pre 0 (List.replicate l.length 0), by simp [fill_length], by have := C_of_blk h.k4 (by rw [fill_length]; simp; omega); rw [fill_length, List.length_replicate] at this; exact this⟩
      case hT => exact fun pre p post W h1 h2 h3 => ofTell_any w A0 c0 l b _ _ _ _ _ _ HP.out.2.2 HC.out (by omega) (by omega) (by omega) (by omega) (by omega) (by omega) (by omega) (by omega) (by omega) (by omega) WX.heap.size (by rw [HW.out]; omega) (by rw [HW.out]; omega) pre p post W h1 h2 h3
      rintro e w2 ⟨rfl, i2, u2⟩
      have I2 := Aside0.mk i2
      have d3 : w2.cell? ⟨wr.heap.size + 1, 0, none⟩ = some (.int .i64 b) := (blk_cell i2.k3 0).trans rfl
      have d4 : w2.cell? ⟨wr.heap.size + 1, 1, none⟩ = some (.slice (some ⟨wr.heap.size, 0, none⟩) l.length l.length) := (blk_cell i2.k3 1).trans rfl
      have d5 : w2.cell? ⟨w.heap.size + 1, 0, none⟩ = some (.int .i64 0) := (blk_cell i2.k5 0).trans rfl
      have d6 : w2.cell? ⟨w.heap.size + 1, 1, none⟩ = some (.slice none 0 0) := (blk_cell i2.k5 1).trans rfl
      have f5 := blk_frozen i2.k5 0
      have f6 := blk_frozen i2.k5 1
      clear i2 u2
      go_wp2
      have k9 : (_ : Option Obj) = some (.cells #[.int .i64 b, .slice (some ⟨wr.heap.size, 0, none⟩) l.length l.length] 25 (0, 0)) := blk_set (blk_set I2.out.k5 0 (.int .i64 b)) 1 (.slice (some ⟨wr.heap.size, 0, none⟩) l.length l.length)
      have hge : w.heap.size ≤ wr.heap.size := by omega
      refine bodyPost_ret (end_of _ _ _ _ rfl k9 rfl) rfl ⟨wr.heap.size, hge, rfl, ?_, (I2.out.below.setCell (p := ⟨w.heap.size + 1, 0, none⟩) (by simp) _).setCell (p := ⟨w.heap.size + 1, 1, none⟩) (by simp) _⟩
      exact blk_far (blk_far I2.out.k4 (show wr.heap.size ≠ w.heap.size + 1 by omega) _) (show wr.heap.size ≠ w.heap.size + 1 by omega) _
end Go.Proofs.Ythhmiieimfdffaa.C8
