/- Walks of a layout's order and of the functions that it is handed: places are told in their order, whatever holds of what was told. -/
import Derived.Test.YthhmiieimfdffaaC6
import Derived.Deep.CutRange
namespace Go.Proofs.Ythhmiieimfdffaa.C7
open Go.RowKit Go.Proofs.YthhmiieimfdffaaW.PrintWords Go.Proofs.YthhmiieimfdffaaW.PrintLast Go.Proofs.YthhmiieimfdffaaW.PrintMore C1 C2 C3 C4 C5 C6 Q1
set_option linter.unusedVariables false
set_option linter.unusedSimpArgs false

/-- From block B on all that there was stays. -/
structure Upper (B : Nat) (w w' : World) : Prop where
  size : w.heap.size ≤ w'.heap.size
  block : ∀ k, B ≤ k → k < w.heap.size → w'.heap[k]? = w.heap[k]?
theorem Upper.refl (B : Nat) (w : World) : Upper B w w := ⟨Nat.le_refl _, fun _ _ _ => rfl⟩
theorem Upper.trans {B : Nat} {a b c : World} (h : Upper B a b) (k : Upper B b c) : Upper B a c :=
  ⟨Nat.le_trans h.size k.size, fun i h1 h2 => (k.block i h1 (Nat.lt_of_lt_of_le h2 h.size)).trans (h.block i h1 h2)⟩
theorem Upper.blk {B : Nat} {w w' : World} (h : Upper B w w') {g : Nat} {o : Obj} (hb : B ≤ g) (hg : w.heap[g]? = some o) : w'.heap[g]? = some o := (h.block g hb (blk_lt hg)).trans hg
theorem Upper.of_below {B : Nat} {w w' : World} (h : Below w.heap.size w w') : Upper B w w' := ⟨h.size, fun k _ h2 => h.block k h2⟩
/-- A row of so many numbers, whatever they are. -/
def Rd (A : Option Addr) (n : Nat) (w : World) : Prop := ∃ l : List Int, l.length = n ∧ Kd.C (Kd.int .i64) w A n l
theorem Rd.below {A : Option Addr} {n : Nat} {w w' : World} (h : Rd A n w) (hb : Below w.heap.size w w') : Rd A n w' := by
  obtain ⟨l, h1, h2⟩ := h
  exact ⟨l, h1, Kd.C_below h2 hb⟩
variable {b : Nat} {A : Option Addr} {c n : Nat}
theorem rd_blocks (h1 : 1 ≤ b) (h2 : b ≤ 10) (hl : n ≤ 1000000) (hc : n ≤ c) (w : World) (hr : Rd A n w) : Calls Try.prog 24 #[.agg #[.int .i64 b, .slice A n c]] w fun e w' => e = .returned (.int .i64 (blk n (wd b))) ∧ Below w.heap.size w w' := by
  obtain ⟨l, rfl, h⟩ := hr
  exact blocks_any h1 h2 hl h hc
theorem rd_child (h1 : 1 ≤ b) (h2 : b ≤ 10) (hc : n ≤ c) {i : Nat} (hi : i ≤ 1000000000000) (w : World) (hr : Rd A n w) : Calls Try.prog 29 #[.agg #[.int .i64 b, .slice A n c], .int .i64 i] w fun e w' => e = .returned (.int .i64 (kid (wd b) i)) ∧ Below w.heap.size w w' := by
  obtain ⟨l, rfl, h⟩ := hr
  exact child_any h1 h2 hi h hc
theorem rd_wide (h1 : 1 ≤ b) (h2 : b ≤ 10) (hc : n ≤ c) (w : World) (hr : Rd A n w) : Calls Try.prog 34 #[.agg #[.int .i64 b, .slice A n c]] w fun e w' => e = .returned (.int .i64 (wd b)) ∧ Below w.heap.size w w' := by
  obtain ⟨l, rfl, h⟩ := hr
  exact wide_any h1 h2 h hc
theorem rd_block (h1 : 1 ≤ b) (h2 : b ≤ 10) (hl : n ≤ 1000000) (hc : n ≤ c) {i : Nat} (hi : i * wd b < n) (w : World) (hr : Rd A n w) : Calls Try.prog 28 #[.agg #[.int .i64 b, .slice A n c], .int .i64 i] w fun e w' => ∃ ad : Addr, e = .returned (.slice (some ad) (sz n (wd b) i) (sz n (wd b) i)) ∧ Below w.heap.size w w' := by
  obtain ⟨l, rfl, h⟩ := hr
  obtain ⟨ad, e, _⟩ := Kd.at_int h 0 (by omega) (by omega)
  cases e
  exact (block_any h1 h2 hl hi h hc).mono fun e w' h => ⟨_, h.1, h.2⟩
/-- What holds on the way. -/
structure St22 (I : List Nat → World → Prop) (b : Nat) (A : Option Addr) (n c B b1 b2 b3 q1 q2 q3 : Nat) (W0 : World) (pre : List Nat) (W : World) : Prop where
  i : I pre W
  up : Upper B W0 W
  sz : B ≤ W.heap.size
  g1 : W.heap[b1]? = some (.cells #[.int .i64 b, .slice A n c] 25 (0, 0))
  g2 : W.heap[b2]? = some (.cells #[.func (.func 33) #[] #[.pointer (some ⟨b1, 0, none⟩), .pointer (some ⟨b2, 0, none⟩), .pointer (some ⟨b3, 0, none⟩)]] 47 (0, 0))
  g3 : W.heap[b3]? = some (.cells #[.func (.func 22) #[] #[.pointer (some ⟨q1, 0, none⟩), .pointer (some ⟨q2, 0, none⟩), .pointer (some ⟨q3, 0, none⟩)]] 47 (0, 0))
section
variable {I : List Nat → World → Prop} {B b1 b2 b3 q1 q2 q3 : Nat} {W0 W W' : World} {pre pre' : List Nat}
theorem St22.below (h : St22 I b A n c B b1 b2 b3 q1 q2 q3 W0 pre W) (hI : ∀ pre W W', I pre W → Below W.heap.size W W' → I pre W') (hb : Below W.heap.size W W') : St22 I b A n c B b1 b2 b3 q1 q2 q3 W0 pre W' :=
  ⟨hI _ _ _ h.i hb, h.up.trans (.of_below hb), Nat.le_trans h.sz hb.size, blk_below h.g1 hb, blk_below h.g2 hb, blk_below h.g3 hb⟩
theorem St22.step (h : St22 I b A n c B b1 b2 b3 q1 q2 q3 W0 pre W) (h1 : B ≤ b1) (h2 : B ≤ b2) (h3 : B ≤ b3) (hI : I pre' W') (hu : Upper B W W') : St22 I b A n c B b1 b2 b3 q1 q2 q3 W0 pre' W' :=
  ⟨hI, h.up.trans hu, Nat.le_trans h.sz hu.size, hu.blk h1 h.g1, hu.blk h2 h.g2, hu.blk h3 h.g3⟩
end
set_option maxHeartbeats 4000000 in
theorem walk_any22 (q1 q2 q3 : Nat) (B b1 b2 b3 : Nat) (hB1 : B ≤ b1) (hB2 : B ≤ b2) (hB3 : B ≤ b3) (h1 : 1 ≤ b) (h2 : b ≤ 10) (hl : n ≤ 1000000) (hc : n ≤ c) (all : List Nat) (I : List Nat → World → Prop)
    (hI : ∀ pre W W', I pre W → Below W.heap.size W W' → I pre W') (hC : ∀ pre W, I pre W → Rd A n W)
    (hS : ∀ pre p post W, all = pre ++ p :: post → I pre W → B ≤ W.heap.size → Calls Try.prog 22 #[.int .i64 (p : Nat), .pointer (some ⟨q1, 0, none⟩), .pointer (some ⟨q2, 0, none⟩), .pointer (some ⟨q3, 0, none⟩)] W fun e w' => e = .returned (.tuple #[]) ∧ I (pre ++ [p]) w' ∧ Upper B W w') :
    ∀ (d i : Nat), n - i ≤ d → i ≤ 1100000000 → ∀ pre post W0 W, all = pre ++ ord n (wd b) i ++ post → St22 I b A n c B b1 b2 b3 q1 q2 q3 W0 pre W →
      Calls Try.prog 33 #[.int .i64 i, .pointer (some ⟨b1, 0, none⟩), .pointer (some ⟨b2, 0, none⟩), .pointer (some ⟨b3, 0, none⟩)] W fun e w' => e = .returned (.tuple #[]) ∧ St22 I b A n c B b1 b2 b3 q1 q2 q3 W0 (pre ++ ord n (wd b) i) w' := by
  obtain ⟨w1, w2, w3⟩ := wd_is h1 h2
  have stop : ∀ (i : Nat), i ≤ 1100000000 → ¬ i * wd b < n → ∀ pre W0 W, St22 I b A n c B b1 b2 b3 q1 q2 q3 W0 pre W →
      Calls Try.prog 33 #[.int .i64 i, .pointer (some ⟨b1, 0, none⟩), .pointer (some ⟨b2, 0, none⟩), .pointer (some ⟨b3, 0, none⟩)] W fun e w' => e = .returned (.tuple #[]) ∧ St22 I b A n c B b1 b2 b3 q1 q2 q3 W0 (pre ++ ord n (wd b) i) w' := by
    intro i hi h pre W0 W hs
    have hd : decide (blk n (wd b) ≤ i) = true := decide_eq_true (by have : ¬ i < blk n (wd b) := fun hc => h ((lt_blk w1).1 hc); omega)
    have HS := Aside0.mk hs
    have HI := Aside0.mk hI
    have T1 := Aside0.mk (rd_blocks h1 h2 hl hc W (hC _ _ hs.i))
    have c0 : W.cell? ⟨b1, 0, none⟩ = some (.int .i64 b) := (blk_cell hs.g1 0).trans rfl
    have c1 : W.cell? ⟨b1, 1, none⟩ = some (.slice A n c) := (blk_cell hs.g1 1).trans rfl
    rw [ord_out h, List.append_nil]
    clear hs hI hC hS h
    go_enter Try.func33, Try.ntmps33
    go_wp2_with fail
    refine T1.out.mono ?_
    rintro e w' ⟨rfl, hb⟩
    replace HS := Aside0.mk (HS.out.below HI.out hb)
    clear hb
    go_wp2
    exact bodyPost_ret (results_none rfl _ _ _) rfl ⟨rfl, HS.out⟩
  intro d
  induction d with
  | zero =>
    intro i hd hi pre post W0 W hall hs
    refine stop i hi (fun h => ?_) _ _ _ hs
    have := lt_of_in ⟨w1, h⟩
    omega
  | succ d ih =>
    intro i hd hi pre post W0 W hall hs
    by_cases h : i * wd b < n
    · have hg := kid_gt (wd b) i
      have hlt := lt_of_in ⟨w1, h⟩
      have hz : sz n (wd b) i ≤ wd b := by unfold sz; omega
      have hk1 : kid (wd b) i ≤ 1025000000 := by
        unfold kid
        have : i * (wd b + 1) ≤ 1000000 * 1024 := Nat.mul_le_mul (by omega) (by omega)
        omega
      have hd1 : decide (blk n (wd b) ≤ i) = false := decide_eq_false (by have := (lt_blk (i := i) w1).2 h; omega)
      have T1 := Aside0.mk (fun w hr => rd_blocks (A := A) h1 h2 hl hc w hr)
      have T2 := Aside0.mk (fun w hr => rd_block (A := A) h1 h2 hl hc h w hr)
      have T3 := Aside0.mk (fun w hr => rd_child (A := A) (i := i) h1 h2 hc (by omega) w hr)
      have T4 := Aside0.mk (fun w hr => rd_wide (A := A) h1 h2 hc w hr)
      have HI := Aside0.mk hI
      have HC := Aside0.mk hC
      rw [ord_in ⟨w1, h⟩, ← List.append_assoc] at hall
      -- the m-th child, the m-th key, the last child
      have K1 : Aside0 (∀ m, m < sz n (wd b) i → ∀ W, St22 I b A n c B b1 b2 b3 q1 q2 q3 W0 (pre ++ C1.part n (wd b) i m) W → Calls Try.prog 33 #[.int .i64 ((kid (wd b) i : Int) + (m : Int)), .pointer (some ⟨b1, 0, none⟩), .pointer (some ⟨b2, 0, none⟩), .pointer (some ⟨b3, 0, none⟩)] W fun e w' => e = .returned (.tuple #[]) ∧ St22 I b A n c B b1 b2 b3 q1 q2 q3 W0 (pre ++ C1.part n (wd b) i m ++ ord n (wd b) (kid (wd b) i + m)) w') := ⟨fun m hm W hs => by
        obtain ⟨R, hR⟩ := part_more n (wd b) i (m + 1) (sz n (wd b) i - (m + 1))
        rw [show m + 1 + (sz n (wd b) i - (m + 1)) = sz n (wd b) i by omega, part_succ] at hR
        rw [hR] at hall
        have := ih (kid (wd b) i + m) (by omega) (by omega) (pre ++ C1.part n (wd b) i m) ((i * wd b + m) :: (R ++ ord n (wd b) (kid (wd b) i + sz n (wd b) i) ++ post)) W0 W (by rw [hall]; simp) hs
        rw [Int.natCast_add] at this
        exact this⟩
      have K2 : Aside0 (∀ m, m < sz n (wd b) i → ∀ W, St22 I b A n c B b1 b2 b3 q1 q2 q3 W0 (pre ++ C1.part n (wd b) i m ++ ord n (wd b) (kid (wd b) i + m)) W → Calls Try.prog 22 #[.int .i64 (((i * wd b : Nat) : Int) + (m : Int)), .pointer (some ⟨q1, 0, none⟩), .pointer (some ⟨q2, 0, none⟩), .pointer (some ⟨q3, 0, none⟩)] W fun e w' => e = .returned (.tuple #[]) ∧ St22 I b A n c B b1 b2 b3 q1 q2 q3 W0 (pre ++ C1.part n (wd b) i (m + 1)) w') := ⟨fun m hm W hs => by
        obtain ⟨R, hR⟩ := part_more n (wd b) i (m + 1) (sz n (wd b) i - (m + 1))
        rw [show m + 1 + (sz n (wd b) i - (m + 1)) = sz n (wd b) i by omega, part_succ] at hR
        rw [hR] at hall
        have := hS (pre ++ C1.part n (wd b) i m ++ ord n (wd b) (kid (wd b) i + m)) (i * wd b + m) (R ++ ord n (wd b) (kid (wd b) i + sz n (wd b) i) ++ post) W (by rw [hall]; simp) hs.i hs.sz
        rw [Int.natCast_add] at this
        refine this.mono fun e w' h => ⟨h.1, ?_⟩
        have h2 := hs.step hB1 hB2 hB3 h.2.1 h.2.2
        rw [part_succ, ← List.append_assoc, ← List.append_assoc]
        exact h2⟩
      have K3 : Aside0 (∀ W, St22 I b A n c B b1 b2 b3 q1 q2 q3 W0 (pre ++ C1.part n (wd b) i (sz n (wd b) i)) W → Calls Try.prog 33 #[.int .i64 ((kid (wd b) i : Int) + (sz n (wd b) i : Int)), .pointer (some ⟨b1, 0, none⟩), .pointer (some ⟨b2, 0, none⟩), .pointer (some ⟨b3, 0, none⟩)] W fun e w' => e = .returned (.tuple #[]) ∧ St22 I b A n c B b1 b2 b3 q1 q2 q3 W0 (pre ++ ord n (wd b) i) w') := ⟨fun W hs => by
        have := ih (kid (wd b) i + sz n (wd b) i) (by omega) (by omega) (pre ++ C1.part n (wd b) i (sz n (wd b) i)) post W0 W hall hs
        rw [Int.natCast_add, List.append_assoc, ← ord_in ⟨w1, h⟩] at this
        exact this⟩
      have HS : Aside0 (St22 I b A n c B b1 b2 b3 q1 q2 q3 W0 (pre ++ C1.part n (wd b) i 0) W) := ⟨by rw [part_zero, List.append_nil]; exact hs⟩
      have hm : (i : Int) * (wd b : Int) = ((i * wd b : Nat) : Int) := by simp
      have hib : i * wd b ≤ 1000000 := by omega
      clear hall hI hC hS hs ih stop hd hlt h
      generalize ord n (wd b) i = target at *
      generalize i * wd b = f at *
      have c0 : W.cell? ⟨b1, 0, none⟩ = some (.int .i64 b) := (blk_cell HS.out.g1 0).trans rfl
      have c1 : W.cell? ⟨b1, 1, none⟩ = some (.slice A n c) := (blk_cell HS.out.g1 1).trans rfl
      go_enter Try.func33, Try.ntmps33
      go_wp2_with fail
      refine (T1.out _ (HC.out _ _ HS.out.i)).mono ?_
      rintro e x1 ⟨rfl, hb⟩
      replace HS := Aside0.mk (HS.out.below HI.out hb)
      clear hb
      have c0 : x1.cell? ⟨b1, 0, none⟩ = some (.int .i64 b) := (blk_cell HS.out.g1 0).trans rfl
      have c1 : x1.cell? ⟨b1, 1, none⟩ = some (.slice A n c) := (blk_cell HS.out.g1 1).trans rfl
      go_wp2_with fail
      refine (T2.out _ (HC.out _ _ HS.out.i)).mono ?_
      rintro e x2 ⟨ad, rfl, hb⟩
      replace HS := Aside0.mk (HS.out.below HI.out hb)
      clear hb T1 T2
      generalize sz n (wd b) i = m at *
      generalize kid (wd b) i = kd at *
      go_wp2
      clear c0 c1
      go_loopg [6, 16] m (fun kq v6 v16 w' => ∃ j : Nat, v16 = .int .i64 j ∧ j ≤ m ∧ Aside0 (kq = m - j) ∧ Aside0 (St22 I b A n c B b1 b2 b3 q1 q2 q3 W0 (pre ++ C1.part n (wd b) i j) w'))
      case atStart => exact ⟨0, rfl, by omega, ⟨by omega⟩, HS⟩
      case round =>
        clear HS
        obtain ⟨j, rfl, hj, HQ, HS⟩ := hrel
        have HR := Aside0.mk (HC.out _ _ HS.out.i)
        have c0 : (_ : Option Value) = some (.int .i64 b) := (blk_cell HS.out.g1 0).trans rfl
        have c1 : (_ : Option Value) = some (.slice A n c) := (blk_cell HS.out.g1 1).trans rfl
        have c2 : (_ : Option Value) = some (.func (.func 33) #[] #[.pointer (some ⟨b1, 0, none⟩), .pointer (some ⟨b2, 0, none⟩), .pointer (some ⟨b3, 0, none⟩)]) := (blk_cell HS.out.g2 0).trans rfl
        by_cases hjm : j < m
        · go_wp2_with fail
          go_cut [16, 6] from 16 to 34 (fun v16 v6 wx => v16 = .int .i64 j ∧ v6 = .int .i64 j ∧ Aside0 (St22 I b A n c B b1 b2 b3 q1 q2 q3 W0 (pre ++ C1.part n (wd b) i j ++ ord n (wd b) (kd + j)) wx))
          case first =>
            have WS := HS.out.below HI.out (below_drew (Below.refl _ _))
            have HW := Aside0.mk WS
            have hwr : IntKind.i64.wrap ((kd : Int) + (j : Int)) = (kd : Int) + (j : Int) := IntWalk.i64_in _ (by omega)
            clear WS
            go_region_with (first | (go_at_call 29; (with_reducible refine (T3.out _ (HC.out _ _ HW.out.i)).mono ?_); rintro e y1 ⟨rfl, hb⟩; have HY := Aside0.mk (HW.out.below HI.out hb); have c2' : y1.cell? ⟨b2, 0, none⟩ = some (.func (.func 33) #[] #[.pointer (some ⟨b1, 0, none⟩), .pointer (some ⟨b2, 0, none⟩), .pointer (some ⟨b3, 0, none⟩)]) := (blk_cell HY.out.g2 0).trans rfl; clear hb) | (go_at_call 33; (with_reducible refine (K1.out j hjm _ HY.out).mono ?_); rintro e y2 ⟨rfl, hs⟩; have HZ := Aside0.mk hs; clear hs))
            all_goals
              go_wp2
              go_meet
              case rel => exact ⟨rfl, rfl, HZ⟩
          case rest =>
            clear HS HR c0 c1 c2
            obtain ⟨rfl, rfl, HS⟩ := hcut
            go_wp2_with fail
            have c0 : (_ : Option Value) = some (.int .i64 b) := (blk_cell HS.out.g1 0).trans rfl
            have c1 : (_ : Option Value) = some (.slice A n c) := (blk_cell HS.out.g1 1).trans rfl
            have c3 : (_ : Option Value) = some (.func (.func 22) #[] #[.pointer (some ⟨q1, 0, none⟩), .pointer (some ⟨q2, 0, none⟩), .pointer (some ⟨q3, 0, none⟩)]) := (blk_cell HS.out.g3 0).trans rfl
            have HW := Aside0.mk (HS.out.below HI.out (below_drew (Below.refl _ _)))
            have hwm : IntKind.i64.wrap (f : Int) = (f : Int) := IntWalk.i64_in _ (by omega)
            have hwr : IntKind.i64.wrap ((f : Int) + (j : Int)) = (f : Int) + (j : Int) := IntWalk.i64_in _ (by omega)
            go_region_with (first | (go_at_call 34; (with_reducible refine (T4.out _ (HC.out _ _ HW.out.i)).mono ?_); rintro e y1 ⟨rfl, hb⟩; have HY := Aside0.mk (HW.out.below HI.out hb); have c3' : y1.cell? ⟨b3, 0, none⟩ = some (.func (.func 22) #[] #[.pointer (some ⟨q1, 0, none⟩), .pointer (some ⟨q2, 0, none⟩), .pointer (some ⟨q3, 0, none⟩)]) := (blk_cell HY.out.g3 0).trans rfl; clear hb) | (go_at_call 22; (with_reducible refine (K2.out j hjm _ HY.out).mono ?_); rintro e y2 ⟨rfl, hs⟩; have HZ := Aside0.mk hs; clear hs))
            all_goals
              clear hwm hwr
              go_wp2
              go_roundg (m - (j + 1))
              case rel => exact ⟨j + 1, by go_num, by omega, ⟨rfl⟩, HZ⟩
              case measure => have := HQ.out; omega
        · have e : j = m := by omega
          subst e
          go_wp2_with fail
          have HW := Aside0.mk (HS.out.below HI.out (below_drew (Below.refl _ _)))
          have hwr : IntKind.i64.wrap ((kd : Int) + (j : Int)) = (kd : Int) + (j : Int) := IntWalk.i64_in _ (by omega)
          go_region_with (first | (go_at_call 29; (with_reducible refine (T3.out _ (HC.out _ _ HW.out.i)).mono ?_); rintro e y1 ⟨rfl, hb⟩; have HY := Aside0.mk (HW.out.below HI.out hb); have c2' : y1.cell? ⟨b2, 0, none⟩ = some (.func (.func 33) #[] #[.pointer (some ⟨b1, 0, none⟩), .pointer (some ⟨b2, 0, none⟩), .pointer (some ⟨b3, 0, none⟩)]) := (blk_cell HY.out.g2 0).trans rfl; clear hb) | (go_at_call 33; (with_reducible refine (K3.out _ HY.out).mono ?_); rintro e y2 ⟨rfl, hs⟩; have HZ := Aside0.mk hs; clear hs))
          all_goals
            clear hwr
            go_wp2
            go_end0
            exact ⟨rfl, HZ.out⟩
    · exact stop i hi h _ _ _ hs
set_option maxHeartbeats 400000 in
theorem order_any22 (q1 q2 q3 : Nat) (h1 : 1 ≤ b) (h2 : b ≤ 10) (hl : n ≤ 1000000) (hc : n ≤ c) (I : List Nat → World → Prop) (w : World)
    (hI : ∀ pre W W', I pre W → Below W.heap.size W W' → I pre W') (hC : ∀ pre W, I pre W → Rd A n W)
    (hS : ∀ pre p post W, ord n (wd b) 0 = pre ++ p :: post → I pre W → w.heap.size ≤ W.heap.size → Calls Try.prog 22 #[.int .i64 (p : Nat), .pointer (some ⟨q1, 0, none⟩), .pointer (some ⟨q2, 0, none⟩), .pointer (some ⟨q3, 0, none⟩)] W fun e w' => e = .returned (.tuple #[]) ∧ I (pre ++ [p]) w' ∧ Upper w.heap.size W w')
    (h0 : I [] w) :
    Calls Try.prog 21 #[.agg #[.int .i64 b, .slice A n c], .func (.func 22) #[] #[.pointer (some ⟨q1, 0, none⟩), .pointer (some ⟨q2, 0, none⟩), .pointer (some ⟨q3, 0, none⟩)]] w fun e w' => e = .returned (.tuple #[]) ∧ I (ord n (wd b) 0) w' ∧ Upper w.heap.size w w' := by
  have k1 := blk_new w (.cells #[.int .i64 b, .slice A n c] 25)
  have k3 := blk_new (w.alloc (.cells #[.int .i64 b, .slice A n c] 25)) (.cells #[.func (.func 22) #[] #[.pointer (some ⟨q1, 0, none⟩), .pointer (some ⟨q2, 0, none⟩), .pointer (some ⟨q3, 0, none⟩)]] 47)
  have k2 := blk_new ((w.alloc (.cells #[.int .i64 b, .slice A n c] 25)).alloc (.cells #[.func (.func 22) #[] #[.pointer (some ⟨q1, 0, none⟩), .pointer (some ⟨q2, 0, none⟩), .pointer (some ⟨q3, 0, none⟩)]] 47)) (.cells #[.func (.func 33) #[] #[.pointer (some ⟨w.heap.size, 0, none⟩), .pointer (some ⟨w.heap.size + 1 + 1, 0, none⟩), .pointer (some ⟨w.heap.size + 1, 0, none⟩)]] 47)
  simp only [World.size_alloc] at k2 k3
  have B3 := below_alloc (below_alloc (below_alloc (Below.refl w.heap.size w) (.cells #[.int .i64 b, .slice A n c] 25)) (.cells #[.func (.func 22) #[] #[.pointer (some ⟨q1, 0, none⟩), .pointer (some ⟨q2, 0, none⟩), .pointer (some ⟨q3, 0, none⟩)]] 47)) (.cells #[.func (.func 33) #[] #[.pointer (some ⟨w.heap.size, 0, none⟩), .pointer (some ⟨w.heap.size + 1 + 1, 0, none⟩), .pointer (some ⟨w.heap.size + 1, 0, none⟩)]] 47)
  have HS := Aside0.mk (show St22 I b A n c w.heap.size w.heap.size (w.heap.size + 1 + 1) (w.heap.size + 1) q1 q2 q3 w [] _ from ⟨hI _ _ _ h0 B3, .of_below B3, B3.size, blk_alloc (blk_alloc k1 _) _, k2, blk_alloc k3 _⟩)
  have HA := Aside0.mk (And.intro hI (And.intro hC hS))
  have H0 := Aside0.mk h0
  clear h0 hI hC hS k1 k2 k3 B3
  go_enter Try.func21, Try.ntmps21
  go_wp2_with fail
  refine (walk_any22 q1 q2 q3 w.heap.size w.heap.size (w.heap.size + 1 + 1) (w.heap.size + 1) (Nat.le_refl _) (by omega) (by omega) h1 h2 hl hc (ord n (wd b) 0) I HA.out.1 HA.out.2.1 HA.out.2.2 n 0 (by omega) (by omega) [] [] w _ (by simp) HS.out).mono ?_
  rintro e w1 ⟨rfl, hs⟩
  have HS := Aside0.mk hs
  clear hs
  go_wp2
  go_end0
  exact ⟨rfl, HS.out.i, HS.out.up⟩
/-- What holds on the way. -/
structure St23 (I : List Nat → World → Prop) (b : Nat) (A : Option Addr) (n c B b1 b2 b3 q1 q2 : Nat) (W0 : World) (pre : List Nat) (W : World) : Prop where
  i : I pre W
  up : Upper B W0 W
  sz : B ≤ W.heap.size
  g1 : W.heap[b1]? = some (.cells #[.int .i64 b, .slice A n c] 25 (0, 0))
  g2 : W.heap[b2]? = some (.cells #[.func (.func 33) #[] #[.pointer (some ⟨b1, 0, none⟩), .pointer (some ⟨b2, 0, none⟩), .pointer (some ⟨b3, 0, none⟩)]] 47 (0, 0))
  g3 : W.heap[b3]? = some (.cells #[.func (.func 23) #[] #[.pointer (some ⟨q1, 0, none⟩), .pointer (some ⟨q2, 0, none⟩)]] 47 (0, 0))
section
variable {I : List Nat → World → Prop} {B b1 b2 b3 q1 q2 : Nat} {W0 W W' : World} {pre pre' : List Nat}
theorem St23.below (h : St23 I b A n c B b1 b2 b3 q1 q2 W0 pre W) (hI : ∀ pre W W', I pre W → Below W.heap.size W W' → I pre W') (hb : Below W.heap.size W W') : St23 I b A n c B b1 b2 b3 q1 q2 W0 pre W' :=
  ⟨hI _ _ _ h.i hb, h.up.trans (.of_below hb), Nat.le_trans h.sz hb.size, blk_below h.g1 hb, blk_below h.g2 hb, blk_below h.g3 hb⟩
theorem St23.step (h : St23 I b A n c B b1 b2 b3 q1 q2 W0 pre W) (h1 : B ≤ b1) (h2 : B ≤ b2) (h3 : B ≤ b3) (hI : I pre' W') (hu : Upper B W W') : St23 I b A n c B b1 b2 b3 q1 q2 W0 pre' W' :=
  ⟨hI, h.up.trans hu, Nat.le_trans h.sz hu.size, hu.blk h1 h.g1, hu.blk h2 h.g2, hu.blk h3 h.g3⟩
end
set_option maxHeartbeats 4000000 in
theorem walk_any23 (q1 q2 : Nat) (B b1 b2 b3 : Nat) (hB1 : B ≤ b1) (hB2 : B ≤ b2) (hB3 : B ≤ b3) (h1 : 1 ≤ b) (h2 : b ≤ 10) (hl : n ≤ 1000000) (hc : n ≤ c) (all : List Nat) (I : List Nat → World → Prop)
    (hI : ∀ pre W W', I pre W → Below W.heap.size W W' → I pre W') (hC : ∀ pre W, I pre W → Rd A n W)
    (hS : ∀ pre p post W, all = pre ++ p :: post → I pre W → B ≤ W.heap.size → Calls Try.prog 23 #[.int .i64 (p : Nat), .pointer (some ⟨q1, 0, none⟩), .pointer (some ⟨q2, 0, none⟩)] W fun e w' => e = .returned (.tuple #[]) ∧ I (pre ++ [p]) w' ∧ Upper B W w') :
    ∀ (d i : Nat), n - i ≤ d → i ≤ 1100000000 → ∀ pre post W0 W, all = pre ++ ord n (wd b) i ++ post → St23 I b A n c B b1 b2 b3 q1 q2 W0 pre W →
      Calls Try.prog 33 #[.int .i64 i, .pointer (some ⟨b1, 0, none⟩), .pointer (some ⟨b2, 0, none⟩), .pointer (some ⟨b3, 0, none⟩)] W fun e w' => e = .returned (.tuple #[]) ∧ St23 I b A n c B b1 b2 b3 q1 q2 W0 (pre ++ ord n (wd b) i) w' := by
  obtain ⟨w1, w2, w3⟩ := wd_is h1 h2
  have stop : ∀ (i : Nat), i ≤ 1100000000 → ¬ i * wd b < n → ∀ pre W0 W, St23 I b A n c B b1 b2 b3 q1 q2 W0 pre W →
      Calls Try.prog 33 #[.int .i64 i, .pointer (some ⟨b1, 0, none⟩), .pointer (some ⟨b2, 0, none⟩), .pointer (some ⟨b3, 0, none⟩)] W fun e w' => e = .returned (.tuple #[]) ∧ St23 I b A n c B b1 b2 b3 q1 q2 W0 (pre ++ ord n (wd b) i) w' := by
    intro i hi h pre W0 W hs
    have hd : decide (blk n (wd b) ≤ i) = true := decide_eq_true (by have : ¬ i < blk n (wd b) := fun hc => h ((lt_blk w1).1 hc); omega)
    have HS := Aside0.mk hs
    have HI := Aside0.mk hI
    have T1 := Aside0.mk (rd_blocks h1 h2 hl hc W (hC _ _ hs.i))
    have c0 : W.cell? ⟨b1, 0, none⟩ = some (.int .i64 b) := (blk_cell hs.g1 0).trans rfl
    have c1 : W.cell? ⟨b1, 1, none⟩ = some (.slice A n c) := (blk_cell hs.g1 1).trans rfl
    rw [ord_out h, List.append_nil]
    clear hs hI hC hS h
    go_enter Try.func33, Try.ntmps33
    go_wp2_with fail
    refine T1.out.mono ?_
    rintro e w' ⟨rfl, hb⟩
    replace HS := Aside0.mk (HS.out.below HI.out hb)
    clear hb
    go_wp2
    exact bodyPost_ret (results_none rfl _ _ _) rfl ⟨rfl, HS.out⟩
  intro d
  induction d with
  | zero =>
    intro i hd hi pre post W0 W hall hs
    refine stop i hi (fun h => ?_) _ _ _ hs
    have := lt_of_in ⟨w1, h⟩
    omega
  | succ d ih =>
    intro i hd hi pre post W0 W hall hs
    by_cases h : i * wd b < n
    · have hg := kid_gt (wd b) i
      have hlt := lt_of_in ⟨w1, h⟩
      have hz : sz n (wd b) i ≤ wd b := by unfold sz; omega
      have hk1 : kid (wd b) i ≤ 1025000000 := by
        unfold kid
        have : i * (wd b + 1) ≤ 1000000 * 1024 := Nat.mul_le_mul (by omega) (by omega)
        omega
      have hd1 : decide (blk n (wd b) ≤ i) = false := decide_eq_false (by have := (lt_blk (i := i) w1).2 h; omega)
      have T1 := Aside0.mk (fun w hr => rd_blocks (A := A) h1 h2 hl hc w hr)
      have T2 := Aside0.mk (fun w hr => rd_block (A := A) h1 h2 hl hc h w hr)
      have T3 := Aside0.mk (fun w hr => rd_child (A := A) (i := i) h1 h2 hc (by omega) w hr)
      have T4 := Aside0.mk (fun w hr => rd_wide (A := A) h1 h2 hc w hr)
      have HI := Aside0.mk hI
      have HC := Aside0.mk hC
      rw [ord_in ⟨w1, h⟩, ← List.append_assoc] at hall
      -- the m-th child, the m-th key, the last child
      have K1 : Aside0 (∀ m, m < sz n (wd b) i → ∀ W, St23 I b A n c B b1 b2 b3 q1 q2 W0 (pre ++ C1.part n (wd b) i m) W → Calls Try.prog 33 #[.int .i64 ((kid (wd b) i : Int) + (m : Int)), .pointer (some ⟨b1, 0, none⟩), .pointer (some ⟨b2, 0, none⟩), .pointer (some ⟨b3, 0, none⟩)] W fun e w' => e = .returned (.tuple #[]) ∧ St23 I b A n c B b1 b2 b3 q1 q2 W0 (pre ++ C1.part n (wd b) i m ++ ord n (wd b) (kid (wd b) i + m)) w') := ⟨fun m hm W hs => by
        obtain ⟨R, hR⟩ := part_more n (wd b) i (m + 1) (sz n (wd b) i - (m + 1))
        rw [show m + 1 + (sz n (wd b) i - (m + 1)) = sz n (wd b) i by omega, part_succ] at hR
        rw [hR] at hall
        have := ih (kid (wd b) i + m) (by omega) (by omega) (pre ++ C1.part n (wd b) i m) ((i * wd b + m) :: (R ++ ord n (wd b) (kid (wd b) i + sz n (wd b) i) ++ post)) W0 W (by rw [hall]; simp) hs
        rw [Int.natCast_add] at this
        exact this⟩
      have K2 : Aside0 (∀ m, m < sz n (wd b) i → ∀ W, St23 I b A n c B b1 b2 b3 q1 q2 W0 (pre ++ C1.part n (wd b) i m ++ ord n (wd b) (kid (wd b) i + m)) W → Calls Try.prog 23 #[.int .i64 (((i * wd b : Nat) : Int) + (m : Int)), .pointer (some ⟨q1, 0, none⟩), .pointer (some ⟨q2, 0, none⟩)] W fun e w' => e = .returned (.tuple #[]) ∧ St23 I b A n c B b1 b2 b3 q1 q2 W0 (pre ++ C1.part n (wd b) i (m + 1)) w') := ⟨fun m hm W hs => by
        obtain ⟨R, hR⟩ := part_more n (wd b) i (m + 1) (sz n (wd b) i - (m + 1))
        rw [show m + 1 + (sz n (wd b) i - (m + 1)) = sz n (wd b) i by omega, part_succ] at hR
        rw [hR] at hall
        have := hS (pre ++ C1.part n (wd b) i m ++ ord n (wd b) (kid (wd b) i + m)) (i * wd b + m) (R ++ ord n (wd b) (kid (wd b) i + sz n (wd b) i) ++ post) W (by rw [hall]; simp) hs.i hs.sz
        rw [Int.natCast_add] at this
        refine this.mono fun e w' h => ⟨h.1, ?_⟩
        have h2 := hs.step hB1 hB2 hB3 h.2.1 h.2.2
        rw [part_succ, ← List.append_assoc, ← List.append_assoc]
        exact h2⟩
      have K3 : Aside0 (∀ W, St23 I b A n c B b1 b2 b3 q1 q2 W0 (pre ++ C1.part n (wd b) i (sz n (wd b) i)) W → Calls Try.prog 33 #[.int .i64 ((kid (wd b) i : Int) + (sz n (wd b) i : Int)), .pointer (some ⟨b1, 0, none⟩), .pointer (some ⟨b2, 0, none⟩), .pointer (some ⟨b3, 0, none⟩)] W fun e w' => e = .returned (.tuple #[]) ∧ St23 I b A n c B b1 b2 b3 q1 q2 W0 (pre ++ ord n (wd b) i) w') := ⟨fun W hs => by
        have := ih (kid (wd b) i + sz n (wd b) i) (by omega) (by omega) (pre ++ C1.part n (wd b) i (sz n (wd b) i)) post W0 W hall hs
        rw [Int.natCast_add, List.append_assoc, ← ord_in ⟨w1, h⟩] at this
        exact this⟩
      have HS : Aside0 (St23 I b A n c B b1 b2 b3 q1 q2 W0 (pre ++ C1.part n (wd b) i 0) W) := ⟨by rw [part_zero, List.append_nil]; exact hs⟩
      have hm : (i : Int) * (wd b : Int) = ((i * wd b : Nat) : Int) := by simp
      have hib : i * wd b ≤ 1000000 := by omega
      clear hall hI hC hS hs ih stop hd hlt h
      generalize ord n (wd b) i = target at *
      generalize i * wd b = f at *
      have c0 : W.cell? ⟨b1, 0, none⟩ = some (.int .i64 b) := (blk_cell HS.out.g1 0).trans rfl
      have c1 : W.cell? ⟨b1, 1, none⟩ = some (.slice A n c) := (blk_cell HS.out.g1 1).trans rfl
      go_enter Try.func33, Try.ntmps33
      go_wp2_with fail
      refine (T1.out _ (HC.out _ _ HS.out.i)).mono ?_
      rintro e x1 ⟨rfl, hb⟩
      replace HS := Aside0.mk (HS.out.below HI.out hb)
      clear hb
      have c0 : x1.cell? ⟨b1, 0, none⟩ = some (.int .i64 b) := (blk_cell HS.out.g1 0).trans rfl
      have c1 : x1.cell? ⟨b1, 1, none⟩ = some (.slice A n c) := (blk_cell HS.out.g1 1).trans rfl
      go_wp2_with fail
      refine (T2.out _ (HC.out _ _ HS.out.i)).mono ?_
      rintro e x2 ⟨ad, rfl, hb⟩
      replace HS := Aside0.mk (HS.out.below HI.out hb)
      clear hb T1 T2
      generalize sz n (wd b) i = m at *
      generalize kid (wd b) i = kd at *
      go_wp2
      clear c0 c1
      go_loopg [6, 16] m (fun kq v6 v16 w' => ∃ j : Nat, v16 = .int .i64 j ∧ j ≤ m ∧ Aside0 (kq = m - j) ∧ Aside0 (St23 I b A n c B b1 b2 b3 q1 q2 W0 (pre ++ C1.part n (wd b) i j) w'))
      case atStart => exact ⟨0, rfl, by omega, ⟨by omega⟩, HS⟩
      case round =>
        clear HS
        obtain ⟨j, rfl, hj, HQ, HS⟩ := hrel
        have HR := Aside0.mk (HC.out _ _ HS.out.i)
        have c0 : (_ : Option Value) = some (.int .i64 b) := (blk_cell HS.out.g1 0).trans rfl
        have c1 : (_ : Option Value) = some (.slice A n c) := (blk_cell HS.out.g1 1).trans rfl
        have c2 : (_ : Option Value) = some (.func (.func 33) #[] #[.pointer (some ⟨b1, 0, none⟩), .pointer (some ⟨b2, 0, none⟩), .pointer (some ⟨b3, 0, none⟩)]) := (blk_cell HS.out.g2 0).trans rfl
        by_cases hjm : j < m
        · go_wp2_with fail
          go_cut [16, 6] from 16 to 34 (fun v16 v6 wx => v16 = .int .i64 j ∧ v6 = .int .i64 j ∧ Aside0 (St23 I b A n c B b1 b2 b3 q1 q2 W0 (pre ++ C1.part n (wd b) i j ++ ord n (wd b) (kd + j)) wx))
          case first =>
            have WS := HS.out.below HI.out (below_drew (Below.refl _ _))
            have HW := Aside0.mk WS
            have hwr : IntKind.i64.wrap ((kd : Int) + (j : Int)) = (kd : Int) + (j : Int) := IntWalk.i64_in _ (by omega)
            clear WS
            go_region_with (first | (go_at_call 29; (with_reducible refine (T3.out _ (HC.out _ _ HW.out.i)).mono ?_); rintro e y1 ⟨rfl, hb⟩; have HY := Aside0.mk (HW.out.below HI.out hb); have c2' : y1.cell? ⟨b2, 0, none⟩ = some (.func (.func 33) #[] #[.pointer (some ⟨b1, 0, none⟩), .pointer (some ⟨b2, 0, none⟩), .pointer (some ⟨b3, 0, none⟩)]) := (blk_cell HY.out.g2 0).trans rfl; clear hb) | (go_at_call 33; (with_reducible refine (K1.out j hjm _ HY.out).mono ?_); rintro e y2 ⟨rfl, hs⟩; have HZ := Aside0.mk hs; clear hs))
            all_goals
              go_wp2
              go_meet
              case rel => exact ⟨rfl, rfl, HZ⟩
          case rest =>
            clear HS HR c0 c1 c2
            obtain ⟨rfl, rfl, HS⟩ := hcut
            go_wp2_with fail
            have c0 : (_ : Option Value) = some (.int .i64 b) := (blk_cell HS.out.g1 0).trans rfl
            have c1 : (_ : Option Value) = some (.slice A n c) := (blk_cell HS.out.g1 1).trans rfl
            have c3 : (_ : Option Value) = some (.func (.func 23) #[] #[.pointer (some ⟨q1, 0, none⟩), .pointer (some ⟨q2, 0, none⟩)]) := (blk_cell HS.out.g3 0).trans rfl
            have HW := Aside0.mk (HS.out.below HI.out (below_drew (Below.refl _ _)))
            have hwm : IntKind.i64.wrap (f : Int) = (f : Int) := IntWalk.i64_in _ (by omega)
            have hwr : IntKind.i64.wrap ((f : Int) + (j : Int)) = (f : Int) + (j : Int) := IntWalk.i64_in _ (by omega)
            go_region_with (first | (go_at_call 34; (with_reducible refine (T4.out _ (HC.out _ _ HW.out.i)).mono ?_); rintro e y1 ⟨rfl, hb⟩; have HY := Aside0.mk (HW.out.below HI.out hb); have c3' : y1.cell? ⟨b3, 0, none⟩ = some (.func (.func 23) #[] #[.pointer (some ⟨q1, 0, none⟩), .pointer (some ⟨q2, 0, none⟩)]) := (blk_cell HY.out.g3 0).trans rfl; clear hb) | (go_at_call 23; (with_reducible refine (K2.out j hjm _ HY.out).mono ?_); rintro e y2 ⟨rfl, hs⟩; have HZ := Aside0.mk hs; clear hs))
            all_goals
              clear hwm hwr
              go_wp2
              go_roundg (m - (j + 1))
              case rel => exact ⟨j + 1, by go_num, by omega, ⟨rfl⟩, HZ⟩
              case measure => have := HQ.out; omega
        · have e : j = m := by omega
          subst e
          go_wp2_with fail
          have HW := Aside0.mk (HS.out.below HI.out (below_drew (Below.refl _ _)))
          have hwr : IntKind.i64.wrap ((kd : Int) + (j : Int)) = (kd : Int) + (j : Int) := IntWalk.i64_in _ (by omega)
          go_region_with (first | (go_at_call 29; (with_reducible refine (T3.out _ (HC.out _ _ HW.out.i)).mono ?_); rintro e y1 ⟨rfl, hb⟩; have HY := Aside0.mk (HW.out.below HI.out hb); have c2' : y1.cell? ⟨b2, 0, none⟩ = some (.func (.func 33) #[] #[.pointer (some ⟨b1, 0, none⟩), .pointer (some ⟨b2, 0, none⟩), .pointer (some ⟨b3, 0, none⟩)]) := (blk_cell HY.out.g2 0).trans rfl; clear hb) | (go_at_call 33; (with_reducible refine (K3.out _ HY.out).mono ?_); rintro e y2 ⟨rfl, hs⟩; have HZ := Aside0.mk hs; clear hs))
          all_goals
            clear hwr
            go_wp2
            go_end0
            exact ⟨rfl, HZ.out⟩
    · exact stop i hi h _ _ _ hs
set_option maxHeartbeats 400000 in
theorem order_any23 (q1 q2 : Nat) (h1 : 1 ≤ b) (h2 : b ≤ 10) (hl : n ≤ 1000000) (hc : n ≤ c) (I : List Nat → World → Prop) (w : World)
    (hI : ∀ pre W W', I pre W → Below W.heap.size W W' → I pre W') (hC : ∀ pre W, I pre W → Rd A n W)
    (hS : ∀ pre p post W, ord n (wd b) 0 = pre ++ p :: post → I pre W → w.heap.size ≤ W.heap.size → Calls Try.prog 23 #[.int .i64 (p : Nat), .pointer (some ⟨q1, 0, none⟩), .pointer (some ⟨q2, 0, none⟩)] W fun e w' => e = .returned (.tuple #[]) ∧ I (pre ++ [p]) w' ∧ Upper w.heap.size W w')
    (h0 : I [] w) :
    Calls Try.prog 21 #[.agg #[.int .i64 b, .slice A n c], .func (.func 23) #[] #[.pointer (some ⟨q1, 0, none⟩), .pointer (some ⟨q2, 0, none⟩)]] w fun e w' => e = .returned (.tuple #[]) ∧ I (ord n (wd b) 0) w' ∧ Upper w.heap.size w w' := by
  have k1 := blk_new w (.cells #[.int .i64 b, .slice A n c] 25)
  have k3 := blk_new (w.alloc (.cells #[.int .i64 b, .slice A n c] 25)) (.cells #[.func (.func 23) #[] #[.pointer (some ⟨q1, 0, none⟩), .pointer (some ⟨q2, 0, none⟩)]] 47)
  have k2 := blk_new ((w.alloc (.cells #[.int .i64 b, .slice A n c] 25)).alloc (.cells #[.func (.func 23) #[] #[.pointer (some ⟨q1, 0, none⟩), .pointer (some ⟨q2, 0, none⟩)]] 47)) (.cells #[.func (.func 33) #[] #[.pointer (some ⟨w.heap.size, 0, none⟩), .pointer (some ⟨w.heap.size + 1 + 1, 0, none⟩), .pointer (some ⟨w.heap.size + 1, 0, none⟩)]] 47)
  simp only [World.size_alloc] at k2 k3
  have B3 := below_alloc (below_alloc (below_alloc (Below.refl w.heap.size w) (.cells #[.int .i64 b, .slice A n c] 25)) (.cells #[.func (.func 23) #[] #[.pointer (some ⟨q1, 0, none⟩), .pointer (some ⟨q2, 0, none⟩)]] 47)) (.cells #[.func (.func 33) #[] #[.pointer (some ⟨w.heap.size, 0, none⟩), .pointer (some ⟨w.heap.size + 1 + 1, 0, none⟩), .pointer (some ⟨w.heap.size + 1, 0, none⟩)]] 47)
  have HS := Aside0.mk (show St23 I b A n c w.heap.size w.heap.size (w.heap.size + 1 + 1) (w.heap.size + 1) q1 q2 w [] _ from ⟨hI _ _ _ h0 B3, .of_below B3, B3.size, blk_alloc (blk_alloc k1 _) _, k2, blk_alloc k3 _⟩)
  have HA := Aside0.mk (And.intro hI (And.intro hC hS))
  have H0 := Aside0.mk h0
  clear h0 hI hC hS k1 k2 k3 B3
  go_enter Try.func21, Try.ntmps21
  go_wp2_with fail
  refine (walk_any23 q1 q2 w.heap.size w.heap.size (w.heap.size + 1 + 1) (w.heap.size + 1) (Nat.le_refl _) (by omega) (by omega) h1 h2 hl hc (ord n (wd b) 0) I HA.out.1 HA.out.2.1 HA.out.2.2 n 0 (by omega) (by omega) [] [] w _ (by simp) HS.out).mono ?_
  rintro e w1 ⟨rfl, hs⟩
  have HS := Aside0.mk hs
  clear hs
  go_wp2
  go_end0
  exact ⟨rfl, HS.out.i, HS.out.up⟩
end Go.Proofs.Ythhmiieimfdffaa.C7
