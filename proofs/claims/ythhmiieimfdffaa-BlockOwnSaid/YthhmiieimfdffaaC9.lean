/- Walks of a layout's Sorted: its keys in order, in a row of its own. -/
import Derived.Test.YthhmiieimfdffaaC8
import Derived.Deep.RegionLaw
namespace Go.Proofs.Ythhmiieimfdffaa.C9
open Go.RowKit Go.Proofs.YthhmiieimfdffaaW.PrintWords Go.Proofs.YthhmiieimfdffaaW.PrintLast Go.Proofs.YthhmiieimfdffaaW.PrintMore C1 C2 C3 C4 C5 C6 C7 C8 Q1
set_option linter.unusedVariables false
set_option linter.unusedSimpArgs false

/-- What holds while keys are told. -/
structure SrtI (w0 : World) (A : Option Addr) (c : Nat) (l : List Int) (b q1 q2 g : Nat) (pre : List Nat) (W : World) : Prop where
  below : Below w0.heap.size w0 W
  k1 : W.heap[q1]? = some (.cells #[.slice (some ⟨g, 0, none⟩) pre.length l.length] 22 (0, 0))
  k2 : W.heap[q2]? = some (.cells #[.int .i64 b, .slice A l.length c] 25 (0, 0))
  row : W.ownsRow w0.heap.size 3 1 (.slice (some ⟨g, 0, none⟩) pre.length l.length) pre.length (nums .i64 (pre.map fun p => l.getD p 0))
theorem SrtI.on {w0 : World} {A : Option Addr} {c : Nat} {l : List Int} {b q1 q2 g : Nat} {pre : List Nat} {W W' : World} (h : SrtI w0 A c l b q1 q2 g pre W) (hb : Below W.heap.size W W') : SrtI w0 A c l b q1 q2 g pre W' :=
  ⟨below_step h.below hb, blk_below h.k1 hb, blk_below h.k2 hb, pw_own_below h.row hb⟩

theorem SrtI.step {w0 : World} {A : Option Addr} {c : Nat} {l : List Int} {b q1 q2 g : Nat} {pre : List Nat} {W w3 : World} (h : SrtI w0 A c l b q1 q2 g pre W)
    (b1 : w0.heap.size ≤ q1) (bg : w0.heap.size ≤ g) (n12 : q1 ≠ q2) (n1g : q1 ≠ g) (n2g : q2 ≠ g) (p : Nat) (v : Int) (hv : l.getD p 0 = v) (o : Obj)
    (hown : w3.ownsRow w0.heap.size 3 1 (.slice (some ⟨g, 0, none⟩) (pre.length + 1) l.length) (pre.length + 1) (nums .i64 (pre.map fun p => l.getD p 0) ++ [.int .i64 v]))
    (hgrow : (W.alloc o).drew.grownBy w3 (some g)) :
    SrtI w0 A c l b q1 q2 g (pre ++ [p]) (w3.setCell ⟨q1, 0, none⟩ (.slice (some ⟨g, 0, none⟩) (pre.length + 1) l.length)) := by
  have hB : Below w0.heap.size w0 w3 := (below_drew (below_alloc h.below o)).grown hgrow (Nat.le_trans h.below.size (by show _ ≤ (W.alloc o).heap.size; simp)) (fun k e => by cases e; exact bg)
  refine ⟨hB.setCell (p := ⟨q1, 0, none⟩) b1 _, ?_, ?_, ?_⟩
  · have := blk_set (blk_grown (blk_drew (blk_alloc h.k1 o)) hgrow (fun e => n1g (Option.some.inj e))) 0 (.slice (some ⟨g, 0, none⟩) (pre.length + 1) l.length)
    rw [this]
    simp
  · exact blk_far (blk_grown (blk_drew (blk_alloc h.k2 o)) hgrow (fun e => n2g (Option.some.inj e))) (fun e => n12 e.symm) _
  · have := own_setCell hown (p := ⟨q1, 0, none⟩) (by simp [Value.ownBlock]; exact n1g) (.slice (some ⟨g, 0, none⟩) (pre.length + 1) l.length)
    rw [List.length_append, List.length_singleton, List.map_append, nums_append]
    simp only [List.map_cons, List.map_nil, hv]
    exact this
/-- append within the capacity, as one step of a region that draws. -/
theorem step_fits {P : Program} {ops : Array Oper} {o : Oper} {a : Act} {w : World} {K : Act → World → Prop} {Q : Exit → Act → World → Prop} {E : Prop}
    (hg : o.guard = none) (s x : Operand) (t : TypeId) (hop : o.op = Op.call { callee := Callee.builtin Builtin.append, args := #[s, x], argTypes := #[t, t] })
    (base : Nat) (e : TypeId) (i : TypeInfo) (size : Nat) (h1 : P.underlying t = some (.slice e)) (h2 : P.info? e = some i) (h4 : i.size = size)
    (g k cap : Nat) (xs : List Value) (hs : a.eval s = .slice (some ⟨g, 0, none⟩) k cap) (hown : w.ownsRow base e size (.slice (some ⟨g, 0, none⟩) k cap) k xs) (ad : Addr) (m c : Nat) (news : List Value) (hx : a.eval x = .slice (some ad) m c) (hn : news.length = m * size)
    (hc : ∀ j u, news[j]? = some u → w.cell? (ad.add j) = some u) (h1c : ∀ u ∈ news, u.oneCell' = true) (b1 : k + m ≤ cap)
    (hK : ∀ w', w'.ownsRow base e size (.slice (some ⟨g, 0, none⟩) (k + m) cap) (k + m) (xs ++ news) → w.grownBy w' (some g) → K (a.put o.dst (.slice (some ⟨g, 0, none⟩) (k + m) cap)) w') :
    if Region.wanted o (yielded ops a.tmps) = true then Oper.wp P o a w K Q else E := by
  have hw : Region.wanted o (yielded ops a.tmps) = true := by simp [Region.wanted, hg]
  rw [if_pos hw]
  obtain ⟨w', hrun, r1, r2⟩ := run_append_fits (P := P) w base t o.type e i size h1 h2 h4 g k cap xs hown ad m c news hn hc h1c b1
  unfold Oper.wp
  simp [execOp, hop, resolve, invoke, builtin, hs, hx, hrun, Result.andThen]
  exact hK w' r1 r2

set_option maxHeartbeats 400000 in
theorem sortTell_any (w0 : World) (A : Option Addr) (c : Nat) (l : List Int) (b q1 q2 g : Nat) {wi : Nat} (hwi : 0 < wi) (hC : Kd.C (Kd.int .i64) w0 A l.length l) (hlen : l.length ≤ 1000000)
    (b1 : w0.heap.size ≤ q1) (bg : w0.heap.size ≤ g) (n12 : q1 ≠ q2) (n1g : q1 ≠ g) (n2g : q2 ≠ g) (B : Nat) (hB1 : q1 < B) (hBg : g < B)
    (pre : List Nat) (p : Nat) (post : List Nat) (W : World) (hall : ord l.length wi 0 = pre ++ p :: post) (hI : SrtI w0 A c l b q1 q2 g pre W) (hBW : B ≤ W.heap.size) :
    Calls Try.prog 23 #[.int .i64 (p : Nat), .pointer (some ⟨q1, 0, none⟩), .pointer (some ⟨q2, 0, none⟩)] W fun e w' => e = .returned (.tuple #[]) ∧ SrtI w0 A c l b q1 q2 g (pre ++ [p]) w' ∧ Upper B W w' := by
  have hz := length_zero (n := l.length) hwi
  have hl := congrArg List.length hall
  rw [hz, List.length_append, List.length_cons] at hl
  have hp : p < l.length := ((mem_ord hwi).1 (show p ∈ ord l.length wi 0 by rw [hall]; simp)).1
  have hj : pre.length < l.length := by omega
  obtain ⟨ad, e, hx⟩ := Kd.at_int (Kd.C_below hC hI.below) (p : Int) (by omega) (by omega)
  cases e
  rw [Int.toNat_natCast] at hx
  have HI := Aside0.mk hI
  have c1 : W.cell? ⟨q1, 0, none⟩ = some (.slice (some ⟨g, 0, none⟩) pre.length l.length) := (blk_cell hI.k1 0).trans rfl
  have c2 : W.cell? ⟨q2, 1, none⟩ = some (.slice (some ad) l.length c) := (blk_cell hI.k2 1).trans rfl
  clear hI hall hl hz
  have hv : rd l p = l.getD p 0 := rfl
  rw [hv] at hx
  clear hv
  obtain ⟨v, hv⟩ : ∃ v, l.getD p 0 = v := ⟨_, rfl⟩
  rw [hv] at hx
  have HV := Aside0.mk hv
  clear hv
  go_enter Try.func23, Try.ntmps23
  go_wp2
  have HD := Aside0.mk (HI.out.on (below_drew (Below.refl _ _)))
  have U0 : Aside0 (Upper B W W.drew) := ⟨⟨Nat.le_refl _, fun _ _ _ => rfl⟩⟩
  have hsz : B ≤ W.drew.heap.size := hBW
  have c1x : (W.alloc (.cells #[.int .i64 v] 3)).cell? ⟨q1, 0, none⟩ = some (.slice (some ⟨g, 0, none⟩) pre.length l.length) := (blk_cell (blk_alloc HI.out.k1 _) 0).trans rfl
  obtain ⟨i0, hi, hz0, hz1, hz2⟩ := info_parts info_int
  go_region_law ((refine step_fits rfl (.tmp 4) (.tmp 10) 22 rfl w0.heap.size 3 i0 1 Try.underlying22 hi hz1 g pre.length l.length _ (by simp [Act.eval, Act.put]) (HD.out.row.alloc _) ⟨W.heap.size, 0, none⟩ 1 1 [.int .i64 v] (by simp [Act.eval, Act.put]) rfl (cell_one_new _ _ _) (by simp [Value.oneCell']) (by omega) ?_; intro w3 hown hgrow; have k1x := blk_grown (blk_drew (blk_alloc HI.out.k1 (.cells #[.int .i64 v] 3))) hgrow (fun e => n1g (Option.some.inj e)); have d1 : w3.cell? ⟨q1, 0, none⟩ = some (.slice (some ⟨g, 0, none⟩) pre.length l.length) := (blk_cell k1x 0).trans rfl; have f1 := blk_frozen k1x 0; have HX := Aside0.mk (And.intro hown (And.intro hgrow k1x)); clear hown hgrow k1x))
  all_goals
    go_end0
    exact ⟨rfl, HI.out.step b1 bg n12 n1g n2g p v HV.out _ HX.out.1 HX.out.2.1, upper_set ⟨Nat.le_trans (by show _ ≤ (W.alloc (.cells #[.int .i64 v] 3)).heap.size; simp) HX.out.2.1.size, fun k h1 h2 => (HX.out.2.1.block k (by show k < (W.alloc (.cells #[.int .i64 v] 3)).heap.size; simp; omega) (fun e => by have := Option.some.inj e; omega)).trans (Below.heap_alloc W _ k h2)⟩ hB1 _⟩

theorem make_cap (n : Nat) (hn : n ≤ 1000000) : ∀ W : World, (Instr.makeSlice 22 (.int .i64 0) (.int .i64 (n : Int))).run Try.prog W = .ok (.slice (some ⟨W.heap.size, 0, none⟩) 0 n) (W.alloc (.cells (madeCells #[.int .i64 0] n) 3)) := by
  intro W
  obtain ⟨i0, hi, hz0, hz1, hz2⟩ := info_parts info_int
  have h := run_make (P := Try.prog) W 22 3 i0 (.int .i64 0) Try.underlying22 hi hz0 .i64 .i64 0 n (Int.le_refl _) (by omega) (by rw [hz2]; omega) (by omega)
  rw [hz1] at h
  simpa [Value.cells] using h
theorem row_whole {w : World} {base n g : Nat} {e : TypeId} {xs : List Value} (h : w.ownsRow base e 1 (.slice (some ⟨g, 0, none⟩) n n) n xs) : w.heap[g]? = some (.cells xs.toArray e (0, 0)) ∧ base ≤ g := by
  rcases h.2 with ⟨h1, _⟩ | ⟨g', cap, cur, he, hb, hh, _, _, hs, ht⟩
  · simp at h1
  · simp only [Value.slice.injEq, Option.some.injEq, Addr.mk.injEq, and_true, true_and] at he
    obtain ⟨rfl, rfl⟩ := he
    refine ⟨?_, hb⟩
    rw [hh]
    congr 2
    rw [← ht, List.take_of_length_le (by rw [Array.length_toList, hs]; exact Nat.le_refl _)]
set_option maxHeartbeats 400000 in
theorem sorted_no (A : Option Addr) (c : Nat) (l : List Int) (b : Int) (hb : bitsB b = false) (w : World) :
    Calls Try.prog 9 #[.agg #[.int .i64 b, .slice A l.length c]] w fun e w' => e = .returned (.tuple #[.slice none 0 0, .int .i64 10]) ∧ Below w.heap.size w w' := by
  have HB := Aside0.mk (below_alloc (Below.refl w.heap.size w) (.cells #[.int .i64 b, .slice A l.length c] 25))
  have h := right_any b
  rw [hb] at h
  have H := Aside0.mk h
  clear h
  go_enter Try.func9, Try.ntmps9
  go_wp2_with fail
  refine (H.out _).mono ?_
  rintro e w1 ⟨rfl, hw⟩
  replace HB := Aside0.mk (below_step HB.out hw.below)
  clear hw
  go_wp2
  go_ret2
  exact ⟨rfl, HB.out⟩
set_option maxHeartbeats 800000 in
theorem sorted_any (A : Option Addr) (c : Nat) (l : List Int) (b : Nat) (h1 : 1 ≤ b) (h2 : b ≤ 10) (w : World) (hr : Kd.C (Kd.int .i64) w A l.length l) (hc : l.length ≤ c) (hlen : l.length ≤ 1000000) :
    Calls Try.prog 9 #[.agg #[.int .i64 b, .slice A l.length c]] w fun e w' => ∃ g, w.heap.size ≤ g ∧ e = .returned (.tuple #[.slice (some ⟨g, 0, none⟩) l.length l.length, .int .i64 0]) ∧
      w'.heap[g]? = some (.cells (nums .i64 (sortedOf l (wd b))).toArray 3 (0, 0)) ∧ Below w.heap.size w w' := by
  have HC := Aside0.mk hr
  obtain ⟨wi1, wi2, wi3⟩ := wd_is h1 h2
  have h := right_any b
  rw [show bitsB b = true from decide_eq_true (by omega)] at h
  have H := Aside0.mk h
  have HP := Aside0.mk (And.intro h1 (And.intro h2 wi1))
  have HB := Aside0.mk (below_alloc (Below.refl w.heap.size w) (.cells #[.int .i64 b, .slice A l.length c] 25))
  have K := Aside0.mk (blk_new w (.cells #[.int .i64 b, .slice A l.length c] 25))
  clear hr h h1 h2 wi1 wi2 wi3
  have hmk := make_cap l.length hlen
  go_enter Try.func9, Try.ntmps9
  go_wp2_with fail
  refine (H.out _).mono ?_
  rintro e w1 ⟨rfl, hw⟩
  replace HB := Aside0.mk (below_step HB.out hw.below)
  replace K := Aside0.mk (blk_below K.out hw.below)
  have hs1 := blk_lt K.out
  have c0 : w1.cell? ⟨w.heap.size, 0, none⟩ = some (.int .i64 b) := (blk_cell K.out 0).trans rfl
  have c1 : w1.cell? ⟨w.heap.size, 1, none⟩ = some (.slice A l.length c) := (blk_cell K.out 1).trans rfl
  clear hw H
  have k2 := blk_new w1 (.cells (madeCells #[.int .i64 0] l.length) 3)
  have k3 := blk_new (w1.alloc (.cells (madeCells #[.int .i64 0] l.length) 3)) (.cells #[.slice (some ⟨w1.heap.size, 0, none⟩) 0 l.length] 22)
  simp only [World.size_alloc] at k3
  have I0 : Aside0 (SrtI w A c l b (w1.heap.size + 1) w.heap.size w1.heap.size [] ((w1.alloc (.cells (madeCells #[.int .i64 0] l.length) 3)).alloc (.cells #[.slice (some ⟨w1.heap.size, 0, none⟩) 0 l.length] 22))) :=
    ⟨⟨below_alloc (below_alloc HB.out _) _, k3, blk_alloc (blk_alloc K.out _) _, ⟨rfl, .inr ⟨_, _, _, rfl, by omega, blk_alloc k2 _, by simp, by simp [maxLen]; omega, by rw [size_madeCells]; omega, by simp [nums]⟩⟩⟩⟩
  have c0x : ((w1.alloc (.cells (madeCells #[.int .i64 0] l.length) 3)).alloc (.cells #[.slice (some ⟨w1.heap.size, 0, none⟩) 0 l.length] 22)).cell? ⟨w.heap.size, 0, none⟩ = some (.int .i64 b) := (blk_cell I0.out.k2 0).trans rfl
  have c1x : ((w1.alloc (.cells (madeCells #[.int .i64 0] l.length) 3)).alloc (.cells #[.slice (some ⟨w1.heap.size, 0, none⟩) 0 l.length] 22)).cell? ⟨w.heap.size, 1, none⟩ = some (.slice A l.length c) := (blk_cell I0.out.k2 1).trans rfl
  clear k2 k3
  go_wp2_with fail
  generalize hW : ((w1.alloc (.cells (madeCells #[.int .i64 0] l.length) 3)).alloc (.cells #[.slice (some ⟨w1.heap.size, 0, none⟩) 0 l.length] 22)) = WX at I0 ⊢
  have HW : Aside0 (WX.heap.size = w1.heap.size + 2) := ⟨by rw [← hW]; simp⟩
  clear hW hmk c1x c0x c0 c1
  refine (order_any23 (w1.heap.size + 1) w.heap.size HP.out.1 HP.out.2.1 hlen hc (SrtI w A c l b (w1.heap.size + 1) w.heap.size w1.heap.size) WX ?hI ?hC ?hT I0.out).mono ?_
  case hI => exact fun pre W W' h hb => h.on hb
  case hC => exact fun pre W h => ⟨l, rfl, Kd.C_below HC.out h.below⟩
  case hT => exact fun pre p post W h1 h2 h3 => sortTell_any w A c l b _ _ _ HP.out.2.2 HC.out (by omega) (by omega) (by omega) (by omega) (by omega) (by omega) WX.heap.size (by rw [HW.out]; omega) (by rw [HW.out]; omega) pre p post W h1 h2 h3
  rintro e w2 ⟨rfl, i2, u2⟩
  have I2 := Aside0.mk i2
  have d1 : w2.cell? ⟨w1.heap.size + 1, 0, none⟩ = some (.slice (some ⟨w1.heap.size, 0, none⟩) l.length l.length) := by
    have := (blk_cell i2.k1 0).trans rfl
    rw [length_zero HP.out.2.2] at this
    exact this
  clear i2 u2
  go_wp2
  go_ret2
  have hrow := I2.out.row
  rw [length_zero HP.out.2.2] at hrow
  obtain ⟨h1, h2⟩ := row_whole hrow
  exact ⟨_, by omega, rfl, h1, I2.out.below⟩
end Go.Proofs.Ythhmiieimfdffaa.C9
