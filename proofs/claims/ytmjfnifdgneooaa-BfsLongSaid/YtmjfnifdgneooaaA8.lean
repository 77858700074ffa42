/- Walks of bfs.order and of the functions that it is handed: places are told in their order, whatever holds of what was told. -/
import Derived.Test.YtmjfnifdgneooaaB4
import Derived.Laws.EntriesVeiled
namespace Go.Proofs.Ytmjfnifdgneooaa.A8
open Go.RowKit Go.Proofs.YtmjfnifdgneooaaW.PrintWords Go.Proofs.YtmjfnifdgneooaaW.PrintLast Go.Proofs.YtmjfnifdgneooaaW.PrintMore B1 A1 B2 B3 B4
set_option linter.unusedVariables false
set_option linter.unusedSimpArgs false

/-- From block B on all that there was stays. -/
structure Upper (B : Nat) (w w' : World) : Prop where
  size : w.heap.size ≤ w'.heap.size
  block : ∀ k, B ≤ k → k < w.heap.size → w'.heap[k]? = w.heap[k]?
theorem Upper.refl (B : Nat) (w : World) : Upper B w w := ⟨Nat.le_refl _, fun _ _ _ => rfl⟩
theorem Upper.trans {B : Nat} {a b c : World} (h : Upper B a b) (k : Upper B b c) : Upper B a c :=
  ⟨Nat.le_trans h.size k.size, fun i h1 h2 => (k.block i h1 (Nat.lt_of_lt_of_le h2 h.size)).trans (h.block i h1 h2)⟩
theorem Upper.blk {B : Nat} {w w' : World} (h : Upper B w w') {g : Nat} {o : Obj} (hb : B ≤ g) (hg : w.heap[g]? = some o) : w'.heap[g]? = some o := (h.block g hb (blk_lt hg)).trans hg

theorem below_any39 (q1 q2 q3 : Nat) (B b1 b2 b3 many : Nat) (hB1 : B ≤ b1) (hB2 : B ≤ b2) (hB3 : B ≤ b3) (hm : many ≤ 1000000) (all : List Nat) (I : List Nat → World → Prop)
    (hI : ∀ pre p post W, all = pre ++ p :: post → I pre W → B ≤ W.heap.size → Calls Try.prog 39 #[.int .i64 (p : Nat), .pointer (some ⟨q1, 0, none⟩), .pointer (some ⟨q2, 0, none⟩), .pointer (some ⟨q3, 0, none⟩)] W fun e w' => e = .returned (.tuple #[]) ∧ I (pre ++ [p]) w' ∧ Upper B W w') :
    ∀ (d p : Nat), many - p ≤ d → p ≤ 2 * many + 2 → ∀ pre post W, all = pre ++ inOrd many p ++ post → I pre W → B ≤ W.heap.size →
      W.heap[b1]? = some (.cells #[.int .i64 many] 3 (0, 0)) → W.heap[b2]? = some (.cells #[.func (.func 41) #[] #[.pointer (some ⟨b1, 0, none⟩), .pointer (some ⟨b2, 0, none⟩), .pointer (some ⟨b3, 0, none⟩)]] 55 (0, 0)) →
      W.heap[b3]? = some (.cells #[.func (.func 39) #[] #[.pointer (some ⟨q1, 0, none⟩), .pointer (some ⟨q2, 0, none⟩), .pointer (some ⟨q3, 0, none⟩)]] 55 (0, 0)) →
      Calls Try.prog 41 #[.int .i64 p, .pointer (some ⟨b1, 0, none⟩), .pointer (some ⟨b2, 0, none⟩), .pointer (some ⟨b3, 0, none⟩)] W fun e w' => e = .returned (.tuple #[]) ∧ I (pre ++ inOrd many p) w' ∧ Upper B W w' := by
  intro d
  induction d with
  | zero =>
    intro p hd hp pre post W hall h0 hBW g1 g2 g3
    have hge : many ≤ p := by omega
    have c1 : W.cell? ⟨b1, 0, none⟩ = some (.int .i64 many) := (blk_cell g1 0).trans rfl
    have HI := Aside0.mk h0
    rw [inOrd_out (by omega), List.append_nil]
    clear hall hI h0 g1 g2 g3
    go_enter Try.func41, Try.ntmps41
    go_wp2
    exact bodyPost_ret (results_none rfl _ _ _) rfl ⟨rfl, HI.out, Upper.refl _ _⟩
  | succ d ih =>
    intro p hd hp pre post W hall h0 hBW g1 g2 g3
    have c1 : W.cell? ⟨b1, 0, none⟩ = some (.int .i64 many) := (blk_cell g1 0).trans rfl
    by_cases hlt : p < many
    · have e1 : all = pre ++ inOrd many (2 * p + 1) ++ (p :: inOrd many (2 * p + 2) ++ post) := by rw [hall, inOrd_in hlt]; simp
      have e2 : all = (pre ++ inOrd many (2 * p + 1)) ++ p :: (inOrd many (2 * p + 2) ++ post) := by rw [e1]; simp
      have e3 : all = (pre ++ inOrd many (2 * p + 1) ++ [p]) ++ inOrd many (2 * p + 2) ++ post := by rw [e1]; simp
      have H1 := Aside0.mk (fun W h0 hBW g1 g2 g3 => ih (2 * p + 1) (by omega) (by omega) _ _ W e1 h0 hBW g1 g2 g3)
      have H2 := Aside0.mk (fun W h0 hBW => hI _ _ _ W e2 h0 hBW)
      have H3 := Aside0.mk (fun W h0 hBW g1 g2 g3 => ih (2 * p + 2) (by omega) (by omega) _ _ W e3 h0 hBW g1 g2 g3)
      have EQ : Aside0 (pre ++ inOrd many p = pre ++ inOrd many (2 * p + 1) ++ [p] ++ inOrd many (2 * p + 2)) := ⟨by rw [inOrd_in hlt]; simp⟩
      have HI := Aside0.mk h0
      have G1 := Aside0.mk g1
      have G2 := Aside0.mk g2
      have G3 := Aside0.mk g3
      have c2 : W.cell? ⟨b2, 0, none⟩ = some (.func (.func 41) #[] #[.pointer (some ⟨b1, 0, none⟩), .pointer (some ⟨b2, 0, none⟩), .pointer (some ⟨b3, 0, none⟩)]) := (blk_cell g2 0).trans rfl
      clear hall hI h0 g1 g2 g3 e1 e2 e3 ih
      go_enter Try.func41, Try.ntmps41
      go_wp2_with fail
      rw [show ((2 : Int) * p + 1) = ((2 * p + 1 : Nat) : Int) by omega]
      refine (H1.out W HI.out hBW G1.out G2.out G3.out).mono ?_
      rintro e w1 ⟨rfl, i1, u1⟩
      have I1 := Aside0.mk i1
      have U1 := Aside0.mk u1
      have B1 : B ≤ w1.heap.size := Nat.le_trans hBW u1.size
      replace G1 := Aside0.mk (u1.blk hB1 G1.out)
      replace G2 := Aside0.mk (u1.blk hB2 G2.out)
      replace G3 := Aside0.mk (u1.blk hB3 G3.out)
      have d3 : w1.cell? ⟨b3, 0, none⟩ = some (.func (.func 39) #[] #[.pointer (some ⟨q1, 0, none⟩), .pointer (some ⟨q2, 0, none⟩), .pointer (some ⟨q3, 0, none⟩)]) := (blk_cell G3.out 0).trans rfl
      clear i1 u1
      go_wp2_with fail
      refine (H2.out w1 I1.out B1).mono ?_
      rintro e w2 ⟨rfl, i2, u2⟩
      have I2 := Aside0.mk i2
      have U2 := Aside0.mk (U1.out.trans u2)
      have B2 : B ≤ w2.heap.size := Nat.le_trans B1 u2.size
      replace G1 := Aside0.mk (u2.blk hB1 G1.out)
      replace G2 := Aside0.mk (u2.blk hB2 G2.out)
      replace G3 := Aside0.mk (u2.blk hB3 G3.out)
      have d2 : w2.cell? ⟨b2, 0, none⟩ = some (.func (.func 41) #[] #[.pointer (some ⟨b1, 0, none⟩), .pointer (some ⟨b2, 0, none⟩), .pointer (some ⟨b3, 0, none⟩)]) := (blk_cell G2.out 0).trans rfl
      clear i2 u2
      go_wp2_with fail
      rw [show ((2 : Int) * p + 2) = ((2 * p + 2 : Nat) : Int) by omega]
      refine (H3.out w2 I2.out B2 G1.out G2.out G3.out).mono ?_
      rintro e w3 ⟨rfl, i3, u3⟩
      have I3 := Aside0.mk i3
      have U3 := Aside0.mk (U2.out.trans u3)
      clear i3 u3
      go_wp2
      go_end0
      exact ⟨rfl, by rw [EQ.out]; exact I3.out, U3.out⟩
    · have HI := Aside0.mk h0
      rw [inOrd_out hlt, List.append_nil]
      clear hall hI h0 g1 g2 g3 ih
      go_enter Try.func41, Try.ntmps41
      go_wp2
      exact bodyPost_ret (results_none rfl _ _ _) rfl ⟨rfl, HI.out, Upper.refl _ _⟩
set_option maxHeartbeats 400000 in
theorem order_any39 (q1 q2 q3 : Nat) (many : Nat) (hm : many ≤ 1000000) (I : List Nat → World → Prop) (w : World)
    (hI : ∀ pre p post W, inOrd many 0 = pre ++ p :: post → I pre W → w.heap.size ≤ W.heap.size → Calls Try.prog 39 #[.int .i64 (p : Nat), .pointer (some ⟨q1, 0, none⟩), .pointer (some ⟨q2, 0, none⟩), .pointer (some ⟨q3, 0, none⟩)] W fun e w' => e = .returned (.tuple #[]) ∧ I (pre ++ [p]) w' ∧ Upper w.heap.size W w')
    (h0 : I [] w) (hal : ∀ pre W o, I pre W → I pre (W.alloc o)) (hset : ∀ pre W a v, I pre W → w.heap.size ≤ a.block → I pre (W.setCell a v)) :
    Calls Try.prog 38 #[.int .i64 many, .func (.func 39) #[] #[.pointer (some ⟨q1, 0, none⟩), .pointer (some ⟨q2, 0, none⟩), .pointer (some ⟨q3, 0, none⟩)]] w fun e w' => e = .returned (.tuple #[]) ∧ I (inOrd many 0) w' ∧ Upper w.heap.size w w' := by
  have H0 := Aside0.mk h0
  have HA := Aside0.mk hal
  have HS := Aside0.mk hset
  have HI := Aside0.mk hI
  clear h0 hal hI hset
  go_enter Try.func38, Try.ntmps38
  go_wp2_with fail
  have K1 := blk_new w (.cells #[.int .i64 many] 3)
  have K3 := blk_new (w.alloc (.cells #[.int .i64 many] 3)) (.cells #[.func (.func 39) #[] #[.pointer (some ⟨q1, 0, none⟩), .pointer (some ⟨q2, 0, none⟩), .pointer (some ⟨q3, 0, none⟩)]] 55)
  have K2 := blk_new ((w.alloc (.cells #[.int .i64 many] 3)).alloc (.cells #[.func (.func 39) #[] #[.pointer (some ⟨q1, 0, none⟩), .pointer (some ⟨q2, 0, none⟩), .pointer (some ⟨q3, 0, none⟩)]] 55)) (.cells #[.func (.func 41) #[] #[.pointer (some ⟨w.heap.size, 0, none⟩), .pointer (some ⟨w.heap.size + 1 + 1, 0, none⟩), .pointer (some ⟨w.heap.size + 1, 0, none⟩)]] 55)
  simp only [World.size_alloc] at K2 K3
  have UP : Upper w.heap.size w (((w.alloc (.cells #[.int .i64 many] 3)).alloc (.cells #[.func (.func 39) #[] #[.pointer (some ⟨q1, 0, none⟩), .pointer (some ⟨q2, 0, none⟩), .pointer (some ⟨q3, 0, none⟩)]] 55)).alloc (.cells #[.func (.func 41) #[] #[.pointer (some ⟨w.heap.size, 0, none⟩), .pointer (some ⟨w.heap.size + 1 + 1, 0, none⟩), .pointer (some ⟨w.heap.size + 1, 0, none⟩)]] 55)) := ⟨by simp; omega, fun k h1 h2 => absurd h2 (by omega)⟩
  refine (below_any39 q1 q2 q3 w.heap.size w.heap.size (w.heap.size + 1 + 1) (w.heap.size + 1) many (Nat.le_refl _) (by omega) (by omega) hm (inOrd many 0) I HI.out many 0 (by omega) (by omega) [] [] _ (by simp) (HA.out _ _ _ (HA.out _ _ _ (HA.out _ _ _ H0.out))) (by simp; omega) (blk_alloc (blk_alloc K1 _) _) K2 (blk_alloc K3 _)).mono ?_
  rintro e w1 ⟨rfl, i1, u1⟩
  have I1 := Aside0.mk i1
  have U1 := Aside0.mk (UP.trans u1)
  clear i1 u1 UP K1 K2 K3
  go_wp2
  go_end0
  exact ⟨rfl, I1.out, U1.out⟩
theorem below_any40 (q1 q2 : Nat) (B b1 b2 b3 many : Nat) (hB1 : B ≤ b1) (hB2 : B ≤ b2) (hB3 : B ≤ b3) (hm : many ≤ 1000000) (all : List Nat) (I : List Nat → World → Prop)
    (hI : ∀ pre p post W, all = pre ++ p :: post → I pre W → B ≤ W.heap.size → Calls Try.prog 40 #[.int .i64 (p : Nat), .pointer (some ⟨q1, 0, none⟩), .pointer (some ⟨q2, 0, none⟩)] W fun e w' => e = .returned (.tuple #[]) ∧ I (pre ++ [p]) w' ∧ Upper B W w') :
    ∀ (d p : Nat), many - p ≤ d → p ≤ 2 * many + 2 → ∀ pre post W, all = pre ++ inOrd many p ++ post → I pre W → B ≤ W.heap.size →
      W.heap[b1]? = some (.cells #[.int .i64 many] 3 (0, 0)) → W.heap[b2]? = some (.cells #[.func (.func 41) #[] #[.pointer (some ⟨b1, 0, none⟩), .pointer (some ⟨b2, 0, none⟩), .pointer (some ⟨b3, 0, none⟩)]] 55 (0, 0)) →
      W.heap[b3]? = some (.cells #[.func (.func 40) #[] #[.pointer (some ⟨q1, 0, none⟩), .pointer (some ⟨q2, 0, none⟩)]] 55 (0, 0)) →
      Calls Try.prog 41 #[.int .i64 p, .pointer (some ⟨b1, 0, none⟩), .pointer (some ⟨b2, 0, none⟩), .pointer (some ⟨b3, 0, none⟩)] W fun e w' => e = .returned (.tuple #[]) ∧ I (pre ++ inOrd many p) w' ∧ Upper B W w' := by
  intro d
  induction d with
  | zero =>
    intro p hd hp pre post W hall h0 hBW g1 g2 g3
    have hge : many ≤ p := by omega
    have c1 : W.cell? ⟨b1, 0, none⟩ = some (.int .i64 many) := (blk_cell g1 0).trans rfl
    have HI := Aside0.mk h0
    rw [inOrd_out (by omega), List.append_nil]
    clear hall hI h0 g1 g2 g3
    go_enter Try.func41, Try.ntmps41
    go_wp2
    exact bodyPost_ret (results_none rfl _ _ _) rfl ⟨rfl, HI.out, Upper.refl _ _⟩
  | succ d ih =>
    intro p hd hp pre post W hall h0 hBW g1 g2 g3
    have c1 : W.cell? ⟨b1, 0, none⟩ = some (.int .i64 many) := (blk_cell g1 0).trans rfl
    by_cases hlt : p < many
    · have e1 : all = pre ++ inOrd many (2 * p + 1) ++ (p :: inOrd many (2 * p + 2) ++ post) := by rw [hall, inOrd_in hlt]; simp
      have e2 : all = (pre ++ inOrd many (2 * p + 1)) ++ p :: (inOrd many (2 * p + 2) ++ post) := by rw [e1]; simp
      have e3 : all = (pre ++ inOrd many (2 * p + 1) ++ [p]) ++ inOrd many (2 * p + 2) ++ post := by rw [e1]; simp
      have H1 := Aside0.mk (fun W h0 hBW g1 g2 g3 => ih (2 * p + 1) (by omega) (by omega) _ _ W e1 h0 hBW g1 g2 g3)
      have H2 := Aside0.mk (fun W h0 hBW => hI _ _ _ W e2 h0 hBW)
      have H3 := Aside0.mk (fun W h0 hBW g1 g2 g3 => ih (2 * p + 2) (by omega) (by omega) _ _ W e3 h0 hBW g1 g2 g3)
      have EQ : Aside0 (pre ++ inOrd many p = pre ++ inOrd many (2 * p + 1) ++ [p] ++ inOrd many (2 * p + 2)) := ⟨by rw [inOrd_in hlt]; simp⟩
      have HI := Aside0.mk h0
      have G1 := Aside0.mk g1
      have G2 := Aside0.mk g2
      have G3 := Aside0.mk g3
      have c2 : W.cell? ⟨b2, 0, none⟩ = some (.func (.func 41) #[] #[.pointer (some ⟨b1, 0, none⟩), .pointer (some ⟨b2, 0, none⟩), .pointer (some ⟨b3, 0, none⟩)]) := (blk_cell g2 0).trans rfl
      clear hall hI h0 g1 g2 g3 e1 e2 e3 ih
      go_enter Try.func41, Try.ntmps41
      go_wp2_with fail
      rw [show ((2 : Int) * p + 1) = ((2 * p + 1 : Nat) : Int) by omega]
      refine (H1.out W HI.out hBW G1.out G2.out G3.out).mono ?_
      rintro e w1 ⟨rfl, i1, u1⟩
      have I1 := Aside0.mk i1
      have U1 := Aside0.mk u1
      have B1 : B ≤ w1.heap.size := Nat.le_trans hBW u1.size
      replace G1 := Aside0.mk (u1.blk hB1 G1.out)
      replace G2 := Aside0.mk (u1.blk hB2 G2.out)
      replace G3 := Aside0.mk (u1.blk hB3 G3.out)
      have d3 : w1.cell? ⟨b3, 0, none⟩ = some (.func (.func 40) #[] #[.pointer (some ⟨q1, 0, none⟩), .pointer (some ⟨q2, 0, none⟩)]) := (blk_cell G3.out 0).trans rfl
      clear i1 u1
      go_wp2_with fail
      refine (H2.out w1 I1.out B1).mono ?_
      rintro e w2 ⟨rfl, i2, u2⟩
      have I2 := Aside0.mk i2
      have U2 := Aside0.mk (U1.out.trans u2)
      have B2 : B ≤ w2.heap.size := Nat.le_trans B1 u2.size
      replace G1 := Aside0.mk (u2.blk hB1 G1.out)
      replace G2 := Aside0.mk (u2.blk hB2 G2.out)
      replace G3 := Aside0.mk (u2.blk hB3 G3.out)
      have d2 : w2.cell? ⟨b2, 0, none⟩ = some (.func (.func 41) #[] #[.pointer (some ⟨b1, 0, none⟩), .pointer (some ⟨b2, 0, none⟩), .pointer (some ⟨b3, 0, none⟩)]) := (blk_cell G2.out 0).trans rfl
      clear i2 u2
      go_wp2_with fail
      rw [show ((2 : Int) * p + 2) = ((2 * p + 2 : Nat) : Int) by omega]
      refine (H3.out w2 I2.out B2 G1.out G2.out G3.out).mono ?_
      rintro e w3 ⟨rfl, i3, u3⟩
      have I3 := Aside0.mk i3
      have U3 := Aside0.mk (U2.out.trans u3)
      clear i3 u3
      go_wp2
      go_end0
      exact ⟨rfl, by rw [EQ.out]; exact I3.out, U3.out⟩
    · have HI := Aside0.mk h0
      rw [inOrd_out hlt, List.append_nil]
      clear hall hI h0 g1 g2 g3 ih
      go_enter Try.func41, Try.ntmps41
      go_wp2
      exact bodyPost_ret (results_none rfl _ _ _) rfl ⟨rfl, HI.out, Upper.refl _ _⟩
set_option maxHeartbeats 400000 in
theorem order_any40 (q1 q2 : Nat) (many : Nat) (hm : many ≤ 1000000) (I : List Nat → World → Prop) (w : World)
    (hI : ∀ pre p post W, inOrd many 0 = pre ++ p :: post → I pre W → w.heap.size ≤ W.heap.size → Calls Try.prog 40 #[.int .i64 (p : Nat), .pointer (some ⟨q1, 0, none⟩), .pointer (some ⟨q2, 0, none⟩)] W fun e w' => e = .returned (.tuple #[]) ∧ I (pre ++ [p]) w' ∧ Upper w.heap.size W w')
    (h0 : I [] w) (hal : ∀ pre W o, I pre W → I pre (W.alloc o)) (hset : ∀ pre W a v, I pre W → w.heap.size ≤ a.block → I pre (W.setCell a v)) :
    Calls Try.prog 38 #[.int .i64 many, .func (.func 40) #[] #[.pointer (some ⟨q1, 0, none⟩), .pointer (some ⟨q2, 0, none⟩)]] w fun e w' => e = .returned (.tuple #[]) ∧ I (inOrd many 0) w' ∧ Upper w.heap.size w w' := by
  have H0 := Aside0.mk h0
  have HA := Aside0.mk hal
  have HS := Aside0.mk hset
  have HI := Aside0.mk hI
  clear h0 hal hI hset
  go_enter Try.func38, Try.ntmps38
  go_wp2_with fail
  have K1 := blk_new w (.cells #[.int .i64 many] 3)
  have K3 := blk_new (w.alloc (.cells #[.int .i64 many] 3)) (.cells #[.func (.func 40) #[] #[.pointer (some ⟨q1, 0, none⟩), .pointer (some ⟨q2, 0, none⟩)]] 55)
  have K2 := blk_new ((w.alloc (.cells #[.int .i64 many] 3)).alloc (.cells #[.func (.func 40) #[] #[.pointer (some ⟨q1, 0, none⟩), .pointer (some ⟨q2, 0, none⟩)]] 55)) (.cells #[.func (.func 41) #[] #[.pointer (some ⟨w.heap.size, 0, none⟩), .pointer (some ⟨w.heap.size + 1 + 1, 0, none⟩), .pointer (some ⟨w.heap.size + 1, 0, none⟩)]] 55)
  simp only [World.size_alloc] at K2 K3
  have UP : Upper w.heap.size w (((w.alloc (.cells #[.int .i64 many] 3)).alloc (.cells #[.func (.func 40) #[] #[.pointer (some ⟨q1, 0, none⟩), .pointer (some ⟨q2, 0, none⟩)]] 55)).alloc (.cells #[.func (.func 41) #[] #[.pointer (some ⟨w.heap.size, 0, none⟩), .pointer (some ⟨w.heap.size + 1 + 1, 0, none⟩), .pointer (some ⟨w.heap.size + 1, 0, none⟩)]] 55)) := ⟨by simp; omega, fun k h1 h2 => absurd h2 (by omega)⟩
  refine (below_any40 q1 q2 w.heap.size w.heap.size (w.heap.size + 1 + 1) (w.heap.size + 1) many (Nat.le_refl _) (by omega) (by omega) hm (inOrd many 0) I HI.out many 0 (by omega) (by omega) [] [] _ (by simp) (HA.out _ _ _ (HA.out _ _ _ (HA.out _ _ _ H0.out))) (by simp; omega) (blk_alloc (blk_alloc K1 _) _) K2 (blk_alloc K3 _)).mono ?_
  rintro e w1 ⟨rfl, i1, u1⟩
  have I1 := Aside0.mk i1
  have U1 := Aside0.mk (UP.trans u1)
  clear i1 u1 UP K1 K2 K3
  go_wp2
  go_end0
  exact ⟨rfl, I1.out, U1.out⟩
end Go.Proofs.Ytmjfnifdgneooaa.A8
