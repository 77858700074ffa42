/- Rows of the document's slots in memory; the law's helper made: an array that is laid, and the document's. -/
import Derived.Test.YtbjkncgpoengaaaDoorS1
import Derived.Test.YtbjkncgpoengaaaDoorG11
import Derived.Deep.Slices
namespace Go.Proofs.YtbjkncgpoengaaaDoor.S1
open Go.RowKit Go.Proofs.YtbjkncgpoengaaaDoorW.PrintWords Go.Proofs.YtbjkncgpoengaaaDoorW.PrintLast Go.Proofs.YtbjkncgpoengaaaDoorW.PrintMore G1 G0 Q1 G2 G3 G4 G5 G6 G7 G8 G9 G10 G11 S1
set_option linter.unusedVariables false
set_option linter.unusedSimpArgs false

theorem Sep.append {w0 w w' : World} {l l' : List Ob} (h : Sep w0 w l) (k : Sep w w' l') : Sep w0 w' (l ++ l') := by
  have h1 := h.step k.below
  refine ⟨h1.below, fun a ha => ?_, fun a ha x hx => ?_, ?_⟩
  · rcases List.mem_append.1 ha with ha | ha
    · exact h1.ok a ha
    · exact k.ok a ha
  · rcases List.mem_append.1 ha with ha | ha
    · exact h1.lo a ha x hx
    · have := k.lo a ha x hx
      exact ⟨Nat.le_trans h.below.size this.1, this.2⟩
  · rw [List.pairwise_append]
    refine ⟨h1.ap, k.ap, fun a ha b hb x hx hx2 => ?_⟩
    have := (h.lo a ha x hx).2
    have := (k.lo b hb x hx2).1
    omega
/-- The cells of a row of slots. -/
def slc (L : List S60) : List Value := L.flatMap fun s => [.bool s.f0, .int .i64 s.f1]
theorem slc_cons (s : S60) (L : List S60) : slc (s :: L) = .bool s.f0 :: .int .i64 s.f1 :: slc L := rfl
theorem slc_length (L : List S60) : (slc L).length = L.length * 2 := by
  induction L with
  | nil => rfl
  | cons s L ih => rw [slc_cons]; simp only [List.length_cons, ih]; omega
theorem slc_at : ∀ (L : List S60) (i : Nat), i < L.length → (slc L)[i * 2]? = some (.bool (L.getD i z60).f0) ∧ (slc L)[i * 2 + 1]? = some (.int .i64 (L.getD i z60).f1) := by
  intro L
  induction L with
  | nil => intro i h; simp at h
  | cons s L ih =>
    intro i h
    cases i with
    | zero => exact ⟨rfl, rfl⟩
    | succ i =>
      have := ih i (by simpa using h)
      rw [slc_cons, show (i + 1) * 2 = i * 2 + 1 + 1 by omega]
      exact this
theorem slc_set : ∀ (L : List S60) (i : Nat) (b : Bool) (x : Int), ((slc L).set (i * 2) (.bool b)).set (i * 2 + 1) (.int .i64 x) = slc (L.set i ⟨b, x⟩) := by
  intro L
  induction L with
  | nil => intro i b x; simp [slc]
  | cons s L ih =>
    intro i b x
    cases i with
    | zero => rfl
    | succ i =>
      rw [slc_cons, show (i + 1) * 2 = i * 2 + 1 + 1 by omega]
      simp only [List.set_cons_succ, slc_cons]
      rw [ih]
theorem slc_set1 : ∀ (L : List S60) (i : Nat) (x : Int), (slc L).set (i * 2 + 1) (.int .i64 x) = slc (L.set i ⟨(L.getD i z60).f0, x⟩) := by
  intro L
  induction L with
  | nil => intro i x; simp [slc]
  | cons s L ih =>
    intro i x
    cases i with
    | zero => rfl
    | succ i =>
      rw [slc_cons, show (i + 1) * 2 = i * 2 + 1 + 1 by omega]
      simp only [List.set_cons_succ, slc_cons]
      rw [ih]
      rfl
/-- A row of slots. -/
abbrev SlB (b : Nat) (L : List S60) : Ob := Blk b (slc L).toArray 60
section
variable {w0 w w' : World} {l : List Ob} {b : Nat} {L : List S60}
theorem slb_cell (h : w.heap[b]? = some (.cells (slc L).toArray 60 (0, 0))) {i : Nat} (hi : i < L.length) : w.cell? ⟨b, i * 2, none⟩ = some (.bool (L.getD i z60).f0) ∧ w.cell? ⟨b, i * 2 + 1, none⟩ = some (.int .i64 (L.getD i z60).f1) := by
  rw [blk_cell h, blk_cell h]
  simpa using slc_at L i hi
theorem slb_C (h : w.heap[b]? = some (.cells (slc L).toArray 60 (0, 0))) (hL : L.length ≤ 1000000) : Kd.C k60 w (some ⟨b, 0, none⟩) L.length L := by
  refine ⟨rfl, by omega, fun _ => ⟨_, rfl, fun j p hp => ⟨[.bool p.f0, .int .i64 p.f1], rfl, k60_mk w p, fun i u hu => ?_⟩⟩⟩
  obtain ⟨hj, e⟩ := List.getElem?_eq_some_iff.1 hp
  have hc := slb_cell h hj
  have e2 : L.getD j z60 = p := by rw [List.getD_eq_getElem?_getD, hp]; rfl
  rw [e2] at hc
  rw [add_plain]
  match i, hu with
  | 0, hu => cases hu; exact hc.1
  | 1, hu => cases hu; exact hc.2
  | i + 2, hu => simp at hu
theorem Sep.slb (h : Sep w0 w l) (i : Nat) (e : l[i]? = some (SlB b L)) : w.heap[b]? = some (.cells (slc L).toArray 60 (0, 0)) := h.blk i e
theorem Sep.slb_turn (h : Sep w0 w l) (i : Nat) (e : l[i]? = some (SlB b L)) (j : Nat) (o : Bool) (x : Int) : Sep w0 ((w.setCell ⟨b, j * 2, none⟩ (.bool o)).setCell ⟨b, j * 2 + 1, none⟩ (.int .i64 x)) (l.set i (SlB b (L.set j ⟨o, x⟩))) := by
  have hi : i < l.length := (List.getElem?_eq_some_iff.1 e).1
  have h1 := h.turn_blk i e (j * 2) (.bool o)
  have h2 := h1.turn_blk i (by rw [List.getElem?_set_self hi]) (j * 2 + 1) (.int .i64 x)
  rw [List.set_set] at h2
  have e3 : (((slc L).toArray.setIfInBounds (j * 2) (.bool o)).setIfInBounds (j * 2 + 1) (.int .i64 x)) = (slc (L.set j ⟨o, x⟩)).toArray := by
    simp [slc_set]
  rw [e3] at h2
  exact h2
theorem Sep.slb_turn1 (h : Sep w0 w l) (i : Nat) (e : l[i]? = some (SlB b L)) (j : Nat) (x : Int) : Sep w0 (w.setCell ⟨b, j * 2 + 1, none⟩ (.int .i64 x)) (l.set i (SlB b (L.set j ⟨(L.getD j z60).f0, x⟩))) := by
  have h1 := h.turn_blk i e (j * 2 + 1) (.int .i64 x)
  have e3 : ((slc L).toArray.setIfInBounds (j * 2 + 1) (.int .i64 x)) = (slc (L.set j ⟨(L.getD j z60).f0, x⟩)).toArray := by
    simp [slc_set1]
  rw [e3] at h1
  exact h1
end
/-- The document's slots of an array. -/
def slots (n : Nat) (g : Gap) : List S60 := (List.range n).map fun i => ⟨g.on i, g.xs.getD i 0⟩
theorem slots_length (n : Nat) (g : Gap) : (slots n g).length = n := by simp [slots]
theorem slots_get (n : Nat) (g : Gap) {i : Nat} (hi : i < n) : (slots n g).getD i z60 = ⟨g.on i, g.xs.getD i 0⟩ := by
  rw [List.getD_eq_getElem?_getD]
  simp [slots, hi]
theorem slots_ext {n : Nat} {L : List S60} {g : Gap} (h1 : L.length = n) (h2 : ∀ i, i < n → L.getD i z60 = ⟨g.on i, g.xs.getD i 0⟩) : L = slots n g := by
  apply List.ext_getElem
  · rw [h1, slots_length]
  · intro i hi hi2
    have := h2 i (by omega)
    have e := slots_get n g (show i < n by omega)
    rw [List.getD_eq_getElem?_getD, List.getElem?_eq_getElem hi] at this
    rw [List.getD_eq_getElem?_getD, List.getElem?_eq_getElem hi2] at e
    exact this.trans e.symm
def gap0 (n : Nat) : Gap := ⟨fun _ => false, List.replicate n 0⟩
theorem slots_zero (n : Nat) : slots n (gap0 n) = List.replicate n z60 := by
  symm
  refine slots_ext (by simp) fun i hi => ?_
  rw [List.getD_eq_getElem?_getD]
  simp [hi, gap0, List.getElem?_replicate]
  rfl
theorem slots_put {n : Nat} {g : Gap} {i : Nat} {x : Int} (hi : i < n) (hx : g.xs.length = n) : (slots n g).set i ⟨true, x⟩ = slots n ⟨upd g.on i true, g.xs.set i x⟩ := by
  refine slots_ext (by rw [List.length_set, slots_length]) fun j hj => ?_
  by_cases e : j = i
  · subst e
    rw [List.getD_eq_getElem?_getD, List.getElem?_set_self (by rw [slots_length]; exact hj)]
    simp [upd, hx, hj]
  · rw [List.getD_eq_getElem?_getD, List.getElem?_set_ne (by omega), ← List.getD_eq_getElem?_getD, slots_get n g hj]
    simp [upd, e, List.getD_eq_getElem?_getD, List.getElem?_set_ne (Ne.symm e)]
theorem info_slot : (Tryd.prog.info? 60).map (fun i => (i.zero, i.size, i.bytes)) = some (some (.agg #[.bool false, .int .i64 0]), 2, 16) := by kernel_rfl
theorem made_slots (n : Nat) : madeCells #[.bool false, .int .i64 0] (n * 2) = (slc (List.replicate n z60)).toArray := by
  have h : slc (List.replicate n z60) = (List.range (n * 2)).map fun i => #[Value.bool false, Value.int .i64 0][i % 2]! := by
    induction n with
    | zero => rfl
    | succ n ih =>
      rw [List.replicate_succ', slc, List.flatMap_append, ← slc, ih, show (n + 1) * 2 = n * 2 + 1 + 1 by omega, List.range_succ, List.range_succ]
      simp
      exact ⟨rfl, rfl⟩
  rw [h]
  unfold madeCells
  rw [← List.toArray_range]
  exact List.map_toArray
theorem make_slots (n : Nat) (hn : n ≤ 1000000) (W : World) : (Instr.makeSlice 55 (.int .i64 (n : Int)) (.int .i64 (n : Int))).run Tryd.prog W = .ok (.slice (some ⟨W.heap.size, 0, none⟩) n n) (W.alloc (.cells (slc (List.replicate n z60)).toArray 60)) := by
  obtain ⟨i, hi, hzz⟩ := Option.map_eq_some_iff.1 info_slot
  simp only [Prod.mk.injEq] at hzz
  obtain ⟨hz, hs, hb⟩ := hzz
  have h := run_make (P := Tryd.prog) W 55 60 i _ Tryd.underlying55 hi hz .i64 .i64 (n : Int) (n : Int) (by omega) (by omega) (by rw [hb]; omega) (by omega)
  have e : madeCells (Value.agg #[.bool false, .int .i64 0]).cells (n * 2) = (slc (List.replicate n z60)).toArray := made_slots n
  rw [hs, Int.toNat_natCast, e] at h
  exact h
end Go.Proofs.YtbjkncgpoengaaaDoor.S1
