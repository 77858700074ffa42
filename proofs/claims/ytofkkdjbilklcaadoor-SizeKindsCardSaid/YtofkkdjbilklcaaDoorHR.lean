/- Resize of an array of texts, with someone told, and where there is none: walked. -/
import Derived.Test.YtofkkdjbilklcaaDoorHA
import Derived.Test.YtofkkdjbilklcaaDoorY6
import Derived.Test.YtofkkdjbilklcaaDoorSC
namespace Go.Proofs.YtofkkdjbilklcaaDoor.HS
open Go.RowKit Go.Shelf Go.Proofs.YtofkkdjbilklcaaDoorW.PrintWords Go.Proofs.YtofkkdjbilklcaaDoorW.PrintLast Go.Proofs.YtofkkdjbilklcaaDoorW.PrintMore G1 G0 Q1 G2 G3 G4 G5 G6 G7 G8 G9 G10 S1 Y1 Y3 Y2 Y6
open L1 (capB sgN cpE cap_mem segs_any for_any forN forE)
open Y4 (cap_nat)
set_option linter.unusedVariables false
set_option linter.unusedSimpArgs false
attribute [local go_sem] Oper.semAt_some
theorem celled_arrS {tx : Int → ByteArray} (p sb ob wb n : Nat) (s : Gap) : (ArrS tx p sb ob wb n s).Celled := by
  rintro w ⟨vs, h⟩ k hk
  simp only [ArrS, List.mem_cons, List.not_mem_nil, or_false] at hk
  rcases hk with rfl | rfl | rfl | rfl
  · exact ⟨_, h.hp, rfl⟩
  · exact ⟨_, h.hs, rfl⟩
  · exact ⟨_, h.bits.ho, rfl⟩
  · exact ⟨_, h.bits.hw, rfl⟩
theorem empty_bad {s : Int} (hc : capB s = false) (n : Int) (w : World) : Calls Tryd.prog 87 #[.int .i64 n, .int .i64 s] w fun e w' => e = .returned (.tuple #[.pointer none, .slice none 0 0, .int .i64 10]) ∧ Below w.heap.size w w' := by
  have C := segs_any s w
  have e1 : sgN s = 0 := by unfold sgN; rw [hc]; rfl
  have e2 : cpE s = 10 := by unfold cpE; rw [hc]; rfl
  rw [e1, e2] at C
  go_enter Tryd.func87, Tryd.ntmps87
  go_wp2_with fail
  refine C.mono ?_
  clear C
  rintro e w1 ⟨rfl, hd⟩
  have HB := Aside0.mk hd.below
  clear hd
  go_wp2
  go_ret3
  exact ⟨rfl, HB.out⟩
theorem empty_long {S : Nat} (hc : capB (S : Int) = true) {n : Nat} (h : S < n) (w : World) : Calls Tryd.prog 87 #[.int .i64 n, .int .i64 S] w fun e w' => e = .returned (.tuple #[.pointer none, .slice none 0 0, .int .i64 12]) ∧ Below w.heap.size w w' := by
  obtain ⟨k, hk, hk1, hk2, e1, e2⟩ := cap_nat hc
  have C := segs_any (S : Int) w
  rw [e1, e2] at C
  have q : (S : Int) < (n : Int) := by omega
  clear hc hk e1 e2
  go_enter Tryd.func87, Tryd.ntmps87
  go_wp2_with fail
  refine C.mono ?_
  clear C
  rintro e w1 ⟨rfl, hd⟩
  have HB := Aside0.mk hd.below
  clear hd
  go_wp2
  go_ret3
  exact ⟨rfl, HB.out⟩
theorem empty_yes {tx : Int → ByteArray} (z : tx 0 = ⟨#[]⟩) {n S k : Nat} (hc : capB (S : Int) = true) (hk : S = 8 * k) (hn : n ≤ S) (w : World) : Calls Tryd.prog 87 #[.int .i64 n, .int .i64 S] w fun e w' => ∃ p sb ob wb A c, e = .returned (.tuple #[.pointer (some ⟨p, 0, none⟩), .slice A n c, .int .i64 0]) ∧ Sep w w' [S1.Own (.slice A n c) (plK n k 0 k), ArrS tx p sb ob wb S (gap0 S)] := by
  obtain ⟨k', hk', hk1, hk2, e1, e2⟩ := cap_nat hc
  obtain rfl : k' = k := by omega
  have C := segs_any (S : Int) w
  rw [e1, e2] at C
  have q : ¬ (S : Int) < (n : Int) := by omega
  have HS := Aside0.mk (Sep.nil w)
  have hlen := Aside0.mk (pl_len (n := n) 0 (show 1 ≤ k' by omega))
  have CP := Aside0.mk (fun w => spl_any (n := n) (s := k') (f := 0) (by omega) (by omega) (by omega) w)
  simp only [Int.natCast_zero] at CP
  have CN := Aside0.mk (fun w => gnew_yes z S w (by omega) (by omega))
  clear hc hk hk' e1 e2
  go_enter Tryd.func87, Tryd.ntmps87
  go_wp2_with fail
  refine C.mono ?_
  clear C
  rintro e w1 ⟨rfl, hd⟩
  replace HS := Aside0.mk (HS.out.step hd.below)
  clear hd
  go_wp2_with fail
  refine (CP.out _).mono ?_
  clear CP
  rintro e w2 ⟨A, c, rfl, h1, h2, h3, hb⟩
  replace HS := Aside0.mk (HS.out.new_own (xs := plK n k' 0 k') hb (by rw [hlen.out]; exact h3))
  clear h1 h2 h3 hb
  go_wp2_with fail
  refine (CN.out _).mono ?_
  clear CN
  rintro e w3 ⟨p, sb, ob, wb, rfl, h4, hs, hb⟩
  replace HS := Aside0.mk (sep_new (s := gap0 S) HS.out hb ⟨_, hs⟩ h4)
  clear hs hb h4
  go_wp2
  go_ret3
  exact ⟨p, sb, ob, wb, A, c, rfl, HS.out⟩
theorem resize_nil (s : Int) (w : World) : Calls Tryd.prog 42 #[.pointer none, .int .i64 s, .nilFunc] w fun e w' => e = .returned (.tuple #[.pointer none, .int .i64 2]) ∧ Below w.heap.size w w' := by
  have HS := Aside0.mk ((((Sep.nil w).new_blk #[.nilFunc] 71).new_blk #[.pointer none] 56).new_blk #[.int .i64 0] 33)
  simp only [World.size_alloc] at HS
  have f1 := blk_frozen (HS.out.blk 1 rfl) 0
  have f2 := blk_frozen (HS.out.blk 2 rfl) 0
  have c1 : (_ : Option Value) = some (.pointer none) := (blk_cell (HS.out.blk 1 rfl) 0).trans rfl
  have c2 : (_ : Option Value) = some (.int .i64 0) := (blk_cell (HS.out.blk 2 rfl) 0).trans rfl
  refine callsIn_wide.1 (callsIn_of_wp_marks (n := 3) Tryd.func42 rfl trivial ?_ rfl)
  refine wpIn_wide.2 ?_
  simp only [Tryd.ntmps42, List.size_toArray, List.length_cons, List.length_nil, Nat.reduceAdd, Nat.reduceSub, Array.replicate_succ, Array.replicate_zero, List.push_toArray, List.append_toArray, List.nil_append, List.cons_append]
  go_wp2
  have HS8 := (((Sep.nil w).new_blk #[.nilFunc] 71).new_blk #[.pointer none] 56).new_blk #[.int .i64 2] 33
  simp only [World.size_alloc] at HS8
  (try simp only [Exit.inBlock, Exit.then])
  refine leave0 (results_cc (t := 6) (u := 7) (ty := 56) (uy := 33) (b := w.heap.size + 1) (d := w.heap.size + 1 + 1) rfl rfl rfl ((blk_cell (HS8.blk 1 rfl) 0).trans rfl) ((blk_cell (HS8.blk 2 rfl) 0).trans rfl) (run_isAgg_plain Tryd.underlying56 rfl _) (run_isAgg_plain Tryd.underlying33 rfl _)) ⟨rfl, HS8.below⟩
section
variable {tx : Int → ByteArray} {w : World} {p sb ob wb n : Nat} {g : Gap}
set_option maxRecDepth 100000 in
theorem resize_badF (hI : Is tx w p sb ob wb n g) {s : Int} (hc : capB s = false) (ft : FuncId) (fc : Array Value) : Calls Tryd.prog 42 #[.pointer (some ⟨p, 0, none⟩), .int .i64 s, .func (.func ft) #[] fc] w fun e w' => e = .returned (.tuple #[.pointer none, .int .i64 10]) ∧ Below w.heap.size w w' := by
  have CE := Aside0.mk (fun w => empty_bad hc (cntF g.on n : Nat) w)
  have HS := Aside0.mk ((((Sep.nil w).new_blk #[.func (.func ft) #[] fc] 71).new_blk #[.pointer none] 56).new_blk #[.int .i64 0] 33)
  simp only [World.size_alloc] at HS
  obtain ⟨vs, hs⟩ := hI.below HS.out.below
  have CL := Aside0.mk (slen_any hs)
  clear hs vs hI hc
  refine callsIn_wide.1 (callsIn_of_wp_marks (n := 3) Tryd.func42 rfl trivial ?_ rfl)
  refine wpIn_wide.2 ?_
  simp only [Tryd.ntmps42, List.size_toArray, List.length_cons, List.length_nil, Nat.reduceAdd, Nat.reduceSub, Array.replicate_succ, Array.replicate_zero, List.push_toArray, List.append_toArray, List.nil_append, List.cons_append]
  go_wp2_with fail
  refine CL.out.mono ?_
  clear CL
  rintro e w1 ⟨rfl, hd⟩
  replace HS := Aside0.mk (HS.out.step hd.below)
  clear hd
  go_wp2_with fail
  refine (CE.out _).mono ?_
  clear CE
  rintro e w2 ⟨rfl, hb⟩
  replace HS := Aside0.mk (HS.out.step hb)
  clear hb
  replace HS := Aside0.mk ((HS.out.new_blk #[.pointer none] 56).new_blk #[.slice none 0 0] 22)
  simp only [World.size_alloc] at HS
  have f1 := blk_frozen (HS.out.blk 1 rfl) 0
  have f2 := blk_frozen (HS.out.blk 2 rfl) 0
  have c1 : (_ : Option Value) = some (.pointer none) := (blk_cell (HS.out.blk 1 rfl) 0).trans rfl
  have c2 : (_ : Option Value) = some (.int .i64 0) := (blk_cell (HS.out.blk 2 rfl) 0).trans rfl
  go_wp2
  have HS8 := (HS.out.turn_blk 1 rfl 0 (.pointer none)).turn_blk 2 rfl 0 (.int .i64 10)
  (try simp only [Exit.inBlock, Exit.then])
  refine leave0 (results_cc (t := 6) (u := 7) (ty := 56) (uy := 33) (b := w.heap.size + 1) (d := w.heap.size + 1 + 1) rfl rfl rfl ((blk_cell (HS8.blk 1 rfl) 0).trans rfl) ((blk_cell (HS8.blk 2 rfl) 0).trans rfl) (run_isAgg_plain Tryd.underlying56 rfl _) (run_isAgg_plain Tryd.underlying33 rfl _)) ⟨rfl, HS8.below⟩
set_option maxRecDepth 100000 in
theorem resize_longF (hI : Is tx w p sb ob wb n g) {S : Nat} (hc : capB (S : Int) = true) (hl : S < cntF g.on n) (ft : FuncId) (fc : Array Value) : Calls Tryd.prog 42 #[.pointer (some ⟨p, 0, none⟩), .int .i64 (S : Int), .func (.func ft) #[] fc] w fun e w' => e = .returned (.tuple #[.pointer none, .int .i64 12]) ∧ Below w.heap.size w w' := by
  have CE := Aside0.mk (fun w => empty_long hc hl w)
  clear hl
  have HS := Aside0.mk ((((Sep.nil w).new_blk #[.func (.func ft) #[] fc] 71).new_blk #[.pointer none] 56).new_blk #[.int .i64 0] 33)
  simp only [World.size_alloc] at HS
  obtain ⟨vs, hs⟩ := hI.below HS.out.below
  have CL := Aside0.mk (slen_any hs)
  clear hs vs hI hc
  refine callsIn_wide.1 (callsIn_of_wp_marks (n := 3) Tryd.func42 rfl trivial ?_ rfl)
  refine wpIn_wide.2 ?_
  simp only [Tryd.ntmps42, List.size_toArray, List.length_cons, List.length_nil, Nat.reduceAdd, Nat.reduceSub, Array.replicate_succ, Array.replicate_zero, List.push_toArray, List.append_toArray, List.nil_append, List.cons_append]
  go_wp2_with fail
  refine CL.out.mono ?_
  clear CL
  rintro e w1 ⟨rfl, hd⟩
  replace HS := Aside0.mk (HS.out.step hd.below)
  clear hd
  go_wp2_with fail
  refine (CE.out _).mono ?_
  clear CE
  rintro e w2 ⟨rfl, hb⟩
  replace HS := Aside0.mk (HS.out.step hb)
  clear hb
  replace HS := Aside0.mk ((HS.out.new_blk #[.pointer none] 56).new_blk #[.slice none 0 0] 22)
  simp only [World.size_alloc] at HS
  have f1 := blk_frozen (HS.out.blk 1 rfl) 0
  have f2 := blk_frozen (HS.out.blk 2 rfl) 0
  have c1 : (_ : Option Value) = some (.pointer none) := (blk_cell (HS.out.blk 1 rfl) 0).trans rfl
  have c2 : (_ : Option Value) = some (.int .i64 0) := (blk_cell (HS.out.blk 2 rfl) 0).trans rfl
  go_wp2
  have HS8 := (HS.out.turn_blk 1 rfl 0 (.pointer none)).turn_blk 2 rfl 0 (.int .i64 12)
  (try simp only [Exit.inBlock, Exit.then])
  refine leave0 (results_cc (t := 6) (u := 7) (ty := 56) (uy := 33) (b := w.heap.size + 1) (d := w.heap.size + 1 + 1) rfl rfl rfl ((blk_cell (HS8.blk 1 rfl) 0).trans rfl) ((blk_cell (HS8.blk 2 rfl) 0).trans rfl) (run_isAgg_plain Tryd.underlying56 rfl _) (run_isAgg_plain Tryd.underlying33 rfl _)) ⟨rfl, HS8.below⟩
end
def ObjsR (tx : Int → ByteArray) (z z2 q qs qo qw S : Nat) (A : Option Addr) (m c : Nat) (ps : List Int) (gg : Gap) (zk zb p : Nat) (kk : Int) (rp : Value) (fv : Value) : List Ob :=
  [Blk z #[fv] 71, Blk (z + 1) #[rp] 56, Blk (z + 1 + 1) #[.int .i64 0] 33, S1.Own (.slice A m c) ps, ArrS tx q qs qo qw S gg, Blk z2 #[.pointer (some ⟨q, 0, none⟩)] 56, Blk (z2 + 1) #[.slice A m c] 22, Blk zk #[.int .i64 kk] 3, Blk zb #[.pointer (some ⟨p, 0, none⟩)] 56]
/-- The func that is told. -/
abbrev fnT (x : Nat) : Value := .func (.func 46) #[] #[.pointer (some ⟨x, 0, none⟩)]
/-- Who is told: what it holds behind each call. -/
structure Tell {σ : Type} (tx : Int → ByteArray) (w0 : World) (N : Nat) (ps : List Int) (x : Nat) (T : σ → List (Nat × Int) → List Ob) : Prop where
  celled : ∀ s pre, ∀ o ∈ T s pre, o.Celled
  call : ∀ s pre (a : Nat × Int) W L, pre.length < N → Sep w0 W (T s pre ++ L) → Calls Tryd.prog 46 #[.string (tx a.2), .int .i64 (a.1 : Int), .int .i64 (ps.getD pre.length 0), .pointer (some ⟨x, 0, none⟩)] W fun e W' => e = .returned (.tuple #[]) ∧ ∃ s', Sep w0 W' (T s' (pre ++ [a]) ++ L) ∧ Only (fun b => ∃ o ∈ T s pre, b ∈ o.F) W W'
theorem celled_objs {tx : Int → ByteArray} {z z2 q qs qo qw S : Nat} {A : Option Addr} {m c : Nat} {ps : List Int} {gg : Gap} {zk zb p : Nat} {kk : Int} {rp fv : Value} : ∀ o ∈ ObjsR tx z z2 q qs qo qw S A m c ps gg zk zb p kk rp fv, o.Celled := by
  intro o ho
  simp only [ObjsR, List.mem_cons, List.not_mem_nil, or_false] at ho
  rcases ho with rfl | rfl | rfl | rfl | rfl | rfl | rfl | rfl | rfl <;> first | exact celled_blk _ _ _ | exact celled_own _ _ | exact celled_arrS _ _ _ _ _ _
theorem celled_app {A B : List Ob} (h : ∀ o ∈ A, o.Celled) (k : ∀ o ∈ B, o.Celled) : ∀ o ∈ A ++ B, o.Celled := fun o ho => (List.mem_append.1 ho).elim (h o) (k o)
abbrev Ch {σ : Type} (T : σ → List (Nat × Int) → List Ob) (s : σ) (pre : List (Nat × Int)) (qs qw zk : Nat) : Nat → Prop := fun x => x = qs ∨ x = qw ∨ x = zk ∨ ∃ o ∈ T s pre, x ∈ o.F
theorem fin_told {tx : Int → ByteArray} {σ : Type} {T : σ → List (Nat × Int) → List Ob} {C : List Ob} {s s' : σ} {pre pre' : List (Nat × Int)} {w0 W W1 W2 : World} {z z2 q qs qo qw S : Nat} {A : Option Addr} {m c : Nat} {ps : List Int} {gg : Gap} {zk zb p : Nat} {j : Nat} {rp fv : Value}
    (h2 : Only (Mine qs qw) W.drew W1) (h3 : Only (fun b => ∃ o ∈ T s pre, b ∈ o.F) W1.drew W2)
    (hs : Sep w0 W2 (T s' pre' ++ (C ++ ObjsR tx z z2 q qs qo qw S A m c ps gg zk zb p (j : Int) rp fv))) :
    Only (Ch T s pre qs qw zk) W (W2.setCell ⟨zk, 0, none⟩ (.int .i64 ((j : Int) + 1))) ∧ Sep w0 (W2.setCell ⟨zk, 0, none⟩ (.int .i64 ((j : Int) + 1))) ((T s' pre' ++ C) ++ ObjsR tx z z2 q qs qo qw S A m c ps gg zk zb p (((j + 1 : Nat) : Int)) rp fv) := by
  constructor
  · refine Only.trans (Only.of_below (below_drew (Below.refl _ W))) (Only.trans (h2.mono ?_) (Only.trans (Only.of_below (below_drew (Below.refl _ W1))) (Only.trans (h3.mono ?_) (Only.set _ W2 (p := ⟨zk, 0, none⟩) (.inr (.inr (.inl rfl))) _))))
    · rintro k (rfl | rfl)
      · exact .inl rfl
      · exact .inr (.inl rfl)
    · exact fun k h => .inr (.inr (.inr h))
  · rw [← List.append_assoc] at hs
    rw [show ((j + 1 : Nat) : Int) = (j : Int) + 1 by omega]
    exact hs.turn_blkR 7 rfl 0 (.int .i64 ((j : Int) + 1))
theorem run_fn (x : Nat) (w : World) : (Go.binOp .eql 71 (fnT x) .nilFunc).run Tryd.prog w = .ok (.bool false) w := by kernel_rfl
set_option maxRecDepth 100000 in
set_option maxHeartbeats 32000000 in
theorem resize_told {tx : Int → ByteArray} (zt : tx 0 = ⟨#[]⟩) {σ : Type} {T : σ → List (Nat × Int) → List Ob} {C : List Ob} {s0 : σ} {w0 w : World} {x1 : Nat} {p sb ob wb n : Nat} {g : Gap} (hS0 : Sep w0 w (T s0 [] ++ C)) (hA : ArrS tx p sb ob wb n g ∈ C) (hC : ∀ o ∈ C, o.Celled) (hT : Tb w0) {S k : Nat} (hc : capB (S : Int) = true) (hk : S = 8 * k) (hn : cntF g.on n ≤ S)
    (hTell : Tell tx w0 (cntF g.on n) (plK (cntF g.on n) k 0 k) x1 T) :
    Calls Tryd.prog 42 #[.pointer (some ⟨p, 0, none⟩), .int .i64 S, fnT x1] w fun e w' => ∃ s p' sb' ob' wb', e = .returned (.tuple #[.pointer (some ⟨p', 0, none⟩), .int .i64 0]) ∧ Sep w0 w' ((T s (ons g.on g.xs n) ++ C) ++ [ArrS tx p' sb' ob' wb' S (layG S (plK (cntF g.on n) k 0 k) (vals (ons g.on g.xs n)) (cntF g.on n))]) := by
  have hI : Is tx w p sb ob wb n g := hS0.ok _ (List.mem_append_right _ hA)
  have HS0 := Aside0.mk hS0
  have HA := Aside0.mk hA
  have HC := Aside0.mk hC
  have HTL := Aside0.mk hTell
  clear hS0 hA hC hTell
  have HS := Aside0.mk ((((Sep.nil w).new_blk #[fnT x1] 71).new_blk #[.pointer none] 56).new_blk #[.int .i64 0] 33)
  simp only [World.size_alloc] at HS
  have HI := Aside0.mk hI
  have HT := Aside0.mk hT
  obtain ⟨vs, hs⟩ := hI.below HS.out.below
  have CL := Aside0.mk (slen_any hs)
  have CE := Aside0.mk (fun w => empty_yes zt hc hk hn w)
  obtain ⟨k', hk', hk1, _⟩ := cap_nat hc
  have HRI := Aside0.mk (show Rise S (plK (cntF g.on n) k 0 k) by rw [hk]; exact pl_rise (by omega) (by omega))
  have HLn := Aside0.mk (pl_len (n := cntF g.on n) 0 (show 1 ≤ k by omega))
  clear hk' hk1
  clear hs vs hI hT hc hk hn
  refine callsIn_wide.1 (callsIn_of_wp_marks (n := 3) Tryd.func42 rfl trivial ?_ rfl)
  refine wpIn_wide.2 ?_
  simp only [Tryd.ntmps42, List.size_toArray, List.length_cons, List.length_nil, Nat.reduceAdd, Nat.reduceSub, Array.replicate_succ, Array.replicate_zero, List.push_toArray, List.append_toArray, List.nil_append, List.cons_append]
  go_wp2_with fail
  refine CL.out.mono ?_
  clear CL
  rintro e w1 ⟨rfl, hd⟩
  replace HS := Aside0.mk (HS.out.step hd.below)
  clear hd
  go_wp2_with fail
  refine (CE.out _).mono ?_
  clear CE
  rintro e w2 ⟨q, qs, qo, qw, A, c, rfl, hs2⟩
  replace HS := Aside0.mk (HS.out.append hs2)
  clear hs2
  replace HS := Aside0.mk ((HS.out.new_blk #[.pointer (some ⟨q, 0, none⟩)] 56).new_blk #[.slice A (cntF g.on n) c] 22)
  simp only [World.size_alloc] at HS
  generalize hz : w.heap.size = z at *
  generalize hz2 : w2.heap.size = z2 at *
  have f0 := blk_frozen (HS.out.blk 0 rfl) 0
  have c0 : (_ : Option Value) = some (fnT x1) := (blk_cell (HS.out.blk 0 rfl) 0).trans rfl
  have hfn := fun w => run_fn x1 w
  go_wp2_with fail
  refine (all_any _ _).mono ?_
  rintro e w4 ⟨rfl, rfl⟩
  replace HS := Aside0.mk ((HS.out.new_blk #[.int .i64 0] 3).new_blk #[.pointer (some ⟨p, 0, none⟩)] 56)
  clear f0 c0 hfn
  simp only [World.size_alloc, World.size_setCell, hz2] at HS ⊢
  generalize hw5 : (((w2.alloc (.cells #[.pointer (some ⟨q, 0, none⟩)] 56)).alloc (.cells #[.slice A (cntF g.on n) c] 22)).alloc (.cells #[.int .i64 0] 3)).alloc (.cells #[.pointer (some ⟨p, 0, none⟩)] 56) = w5 at *
  replace HS : Aside0 (Sep w w5 (ObjsR tx z z2 q qs qo qw S A (cntF g.on n) c (plK (cntF g.on n) k 0 k) (gap0 S) (z2 + 1 + 1) (z2 + 1 + 1 + 1) p 0 (.pointer none) (fnT x1))) := HS
  clear hw5 hz2
  replace HS := Aside0.mk (HS0.out.append HS.out)
  clear HS0
  obtain ⟨vs, hs⟩ := HS.out.left.ok _ (List.mem_append_right _ HA.out)
  have hT5 := Kd.C_below HT.out HS.out.below
  have hB5 := HS.out.right.blk 8 rfl
  have hm : (ons g.on g.xs n).length = cntF g.on n := ons_length _ _ _
  have HBN := Aside0.mk (show cntF g.on n ≤ 65536 from Nat.le_trans (cntF_le _ _) hs.bits.high)
  have hV : 1 < w0.heap.size := by
    obtain ⟨ad, e, hx⟩ := Kd.at_int HT.out 0 (by omega) (by omega)
    cases e
    exact World.block_lt_of_cell? w0 _ hx
  have HV := Aside0.mk hV
  have HKL : Aside0 (∀ x ∈ [z2 + 1 + 1 + 1, p, sb, ob, wb, 1], x < w5.heap.size) := ⟨by
    have l1 := is_lt (show Is tx w5 p sb ob wb n g from ⟨vs, hs⟩)
    have l4 := (HS.out.right.lo _ (List.mem_of_getElem? (i := 8) rfl) (z2 + 1 + 1 + 1) (by simp [Blk])).2
    have hsz := HS.out.below.size
    intro x hx
    simp only [List.mem_cons, List.not_mem_nil, or_false] at hx
    rcases hx with rfl | rfl | rfl | rfl | rfl | rfl
    · exact l4
    · exact l1 _ (by simp)
    · exact l1 _ (by simp)
    · exact l1 _ (by simp)
    · exact l1 _ (by simp)
    · omega⟩
  have HW0 := Aside0.mk HS.out.below.size
  have HK : Aside0 (∀ s pre W gg (kk : Int), Sep w0 W ((T s pre ++ C) ++ ObjsR tx z z2 q qs qo qw S A (cntF g.on n) c (plK (cntF g.on n) k 0 k) gg (z2 + 1 + 1) (z2 + 1 + 1 + 1) p kk (.pointer none) (fnT x1)) → (∀ x ∈ [z2 + 1 + 1 + 1, p, sb, ob, wb, 1], ¬ Ch T s pre qs qw (z2 + 1 + 1) x) ∧ ∀ x, Ch T s pre qs qw (z2 + 1 + 1) x → ∃ c, W.heap[x]? = some c ∧ c.isCells = true) := ⟨by
    intro s pre W gg kk h
    have l2 := h.right.lo _ (List.mem_of_getElem? (i := 4) rfl)
    have l3 := h.right.lo _ (List.mem_of_getElem? (i := 7) rfl)
    have b1 := l2 qs (by simp [ArrS])
    have b2 := l2 qw (by simp [ArrS])
    have b3 := l3 (z2 + 1 + 1) (by simp [Blk])
    have a4 := ap_ne h.right.ap (i := 4) (j := 8) rfl rfl (by decide)
    have a5 := a4 qs (by simp [ArrS])
    have a6 := a4 qw (by simp [ArrS])
    simp only [Blk, List.mem_singleton] at a5 a6
    have aAB : ∀ y ∈ [p, sb, ob, wb], y ≠ qs ∧ y ≠ qw ∧ y ≠ z2 + 1 + 1 := fun y hy =>
      ⟨fun e => h.ne (List.mem_append_right _ HA.out) (List.mem_of_getElem? (i := 4) rfl) y (by simpa [ArrS] using hy) (by rw [e]; simp [ArrS]),
       fun e => h.ne (List.mem_append_right _ HA.out) (List.mem_of_getElem? (i := 4) rfl) y (by simpa [ArrS] using hy) (by rw [e]; simp [ArrS]),
       fun e => h.ne (List.mem_append_right _ HA.out) (List.mem_of_getElem? (i := 7) rfl) y (by simpa [ArrS] using hy) (by rw [e]; simp [Blk])⟩
    have aT : ∀ o ∈ T s pre, (∀ y ∈ [p, sb, ob, wb], y ∉ o.F) ∧ z2 + 1 + 1 + 1 ∉ o.F ∧ 1 ∉ o.F := fun o ho =>
      ⟨fun y hy hy2 => h.left.ne ho HA.out y hy2 (by simpa [ArrS] using hy), fun hy => h.ne (List.mem_append_left _ ho) (List.mem_of_getElem? (i := 8) rfl) _ hy (by simp [Blk]),
       fun hy => by have := h.left.left.lo o ho 1 hy; have := HV.out; omega⟩
    refine ⟨fun x hx hch => ?_, fun x hch => ?_⟩
    · have hV := HV.out
      simp only [List.mem_cons, List.not_mem_nil, or_false] at hx
      rcases hch with e | e | e | ⟨o, ho, hy⟩
      · rcases hx with rfl | h1 | h1 | h1 | h1 | rfl
        · omega
        · exact (aAB x (by simp [h1])).1 e
        · exact (aAB x (by simp [h1])).1 e
        · exact (aAB x (by simp [h1])).1 e
        · exact (aAB x (by simp [h1])).1 e
        · omega
      · rcases hx with rfl | h1 | h1 | h1 | h1 | rfl
        · omega
        · exact (aAB x (by simp [h1])).2.1 e
        · exact (aAB x (by simp [h1])).2.1 e
        · exact (aAB x (by simp [h1])).2.1 e
        · exact (aAB x (by simp [h1])).2.1 e
        · omega
      · rcases hx with rfl | h1 | h1 | h1 | h1 | rfl
        · omega
        · exact (aAB x (by simp [h1])).2.2 e
        · exact (aAB x (by simp [h1])).2.2 e
        · exact (aAB x (by simp [h1])).2.2 e
        · exact (aAB x (by simp [h1])).2.2 e
        · omega
      · rcases hx with rfl | h1 | h1 | h1 | h1 | rfl
        · exact (aT o ho).2.1 hy
        · exact (aT o ho).1 x (by simp [h1]) hy
        · exact (aT o ho).1 x (by simp [h1]) hy
        · exact (aT o ho).1 x (by simp [h1]) hy
        · exact (aT o ho).1 x (by simp [h1]) hy
        · exact (aT o ho).2.2 hy
    · rcases hch with rfl | rfl | rfl | ⟨o, ho, hy⟩
      · exact celled_arrS _ _ _ _ _ _ W (sep_arr h.right 4 rfl) _ (by simp [ArrS])
      · exact celled_arrS _ _ _ _ _ _ W (sep_arr h.right 4 rfl) _ (by simp [ArrS])
      · exact celled_blk _ _ _ W (h.right.blk 7 rfl) _ (by simp [Blk])
      · exact HTL.out.celled s pre o ho W (h.left.left.ok o ho) x hy⟩
  have HCE : Aside0 (∀ s pre gg (kk : Int), ∀ o ∈ (T s pre ++ C) ++ ObjsR tx z z2 q qs qo qw S A (cntF g.on n) c (plK (cntF g.on n) k 0 k) gg (z2 + 1 + 1) (z2 + 1 + 1 + 1) p kk (.pointer none) (fnT x1), o.Celled) := ⟨fun s pre gg kk => celled_app (celled_app (HTL.out.celled s pre) HC.out) celled_objs⟩
  clear hV
  go_wp2
  apply wpIn_wide.1
  apply wpIn_rangeFunc_ownG (F := Fence.wide) (n := 3) rfl (by omega) (gf := 120) (lb := #[.pointer (some ⟨z2 + 1 + 1 + 1, 0, none⟩)]) rfl trivial (enters_of Tryd.func120 (by kernel_rfl) rfl)
    (all_stopsN 2 (by omega) _ hB5 hs hT5) Stay.trans (fun W l o o' a b _ _ => stay_putObj HKL.out W l o o' a b) (Below.refl _ _) (fun _ => rfl)
    (fun pre W => w5.heap.size ≤ W.heap.size ∧ ∃ s, Sep w0 W ((T s pre ++ C) ++ ObjsR tx z z2 q qs qo qw S A (cntF g.on n) c (plK (cntF g.on n) k 0 k) (layG S (plK (cntF g.on n) k 0 k) (vals pre) pre.length) (z2 + 1 + 1) (z2 + 1 + 1 + 1) p (pre.length : Int) (.pointer none) (fnT x1)))
    (fun _ _ _ => False)
    (fun pre W W' row h hg hr => ⟨Nat.le_trans h.1 hg.size, h.2.imp fun s h => sep_growC h (HCE.out _ _ _ _) hg hr HW0.out⟩)
    (fun _ _ _ _ _ hs _ _ => hs) ⟨Nat.le_refl _, _, HS.out⟩
  case hassign =>
    intro l x W K hK
    have HK := Aside0.mk hK
    clear hK
    gi_wp2
    exact HK.out
  case hstop =>
    rintro D c pre W _ hpre h _
    exact h.elim
  case hbody =>
    clear hs hT5 hB5 hm vs
    rintro l pre ⟨xi, xv⟩ W ⟨hz6, s, hs⟩ hlt
    clear HS
    have HSW := Aside0.mk hs
    have HZ := Aside0.mk hz6
    have HS2 := Aside0.mk (hs.step (below_drew (Below.refl W.heap.size W)))
    have HSN := Aside0.mk (lay_snoc (S := S) (ps := plK (cntF g.on n) k 0 k) pre (xi, xv))
    have hle : pre.length ≤ (plK (cntF g.on n) k 0 k).length := by rw [HLn.out]; omega
    have HPT := Aside0.mk (lay_put (l := vals pre) HRI.out (by rw [HLn.out]; exact hlt))
    obtain ⟨ad, e, hx⟩ := Kd.at_int (HS2.out.right.row 3 rfl).2.2 (pre.length : Int) (by omega) (by omega)
    cases e
    rw [Int.toNat_natCast, show rd (plK (cntF g.on n) k 0 k) (pre.length : Int) = (plK (cntF g.on n) k 0 k).getD pre.length 0 from rfl] at hx
    have c5 : (_ : Option Value) = some (.pointer (some ⟨q, 0, none⟩)) := (blk_cell (HS2.out.right.blk 5 rfl) 0).trans rfl
    have c6 : (_ : Option Value) = some (.slice (some ad) (cntF g.on n) c) := (blk_cell (HS2.out.right.blk 6 rfl) 0).trans rfl
    have c7 : (_ : Option Value) = some (.int .i64 (pre.length : Int)) := (blk_cell (HS2.out.right.blk 7 rfl) 0).trans rfl
    have CP := put_any (sep_arr HS2.out.right 4 rfl) ((plK (cntF g.on n) k 0 k).getD pre.length 0) xv
    rw [HPT.out] at CP
    replace CP := Aside0.mk CP
    have HRW := Aside0.mk (fun (W : World) (h : Kd.C (Kd.int .i64) W (some ad) (cntF g.on n) (plK (cntF g.on n) k 0 k)) => (Kd.at_int h (pre.length : Int) (by omega) (by omega)))
    dsimp only at HSN
    generalize hy : (plK (cntF g.on n) k 0 k).getD pre.length 0 = y at *
    generalize layG S (plK (cntF g.on n) k 0 k) (vals pre) pre.length = gg at *
    generalize hgg : layG S (plK (cntF g.on n) k 0 k) (vals (pre ++ [(xi, xv)])) (pre ++ [(xi, xv)]).length = gg' at *
    have HGG := Aside0.mk hgg
    clear hgg
    have HY := Aside0.mk hy
    have HJ := Aside0.mk (show (pre ++ [(xi, xv)]).length = pre.length + 1 by simp)
    have b0 : (0 : Int) ≤ (pre.length : Int) := by omega
    have b1 : (pre.length : Int) < (cntF g.on n : Int) := by omega
    clear hz6 hs hle HPT hy
    gi_wp2
    refine BR.tail_round 6 (by kernel_rfl) (by kernel_rfl) (by kernel_rfl) ?_
    simp only [List.take_succ_cons, List.take_zero, List.drop_succ_cons, List.drop_zero]
    repeat still_step
    refine wpStill_nil ?_
    go_wp2_with fail
    refine CP.out.mono ?_
    rintro e W1 ⟨rfl, h4, h5⟩
    rw [← HSN.out] at h4
    have HP := Aside0.mk (And.intro h4 h5)
    clear h4 h5
    go_wp2
    refine BR.OnlyN.normal ?_
    have HS3 := Aside0.mk ((sep_turnR HS2.out 4 rfl HP.out.2 HP.out.1).step (below_drew (Below.refl _ W1)))
    clear hx c5 c6 c7 CP
    have d0 : (_ : Option Value) = some (fnT x1) := (blk_cell (HS3.out.right.blk 0 rfl) 0).trans rfl
    have d6 : (_ : Option Value) = some (.slice (some ad) (cntF g.on n) c) := (blk_cell (HS3.out.right.blk 6 rfl) 0).trans rfl
    have d7 : (_ : Option Value) = some (.int .i64 (pre.length : Int)) := (blk_cell (HS3.out.right.blk 7 rfl) 0).trans rfl
    have f7 := blk_frozen (HS3.out.right.blk 7 rfl) 0
    obtain ⟨ad2, e2, dx⟩ := HRW.out _ (HS3.out.right.row 3 rfl).2.2
    cases e2
    rw [Int.toNat_natCast, show rd (plK (cntF g.on n) k 0 k) (pre.length : Int) = (plK (cntF g.on n) k 0 k).getD pre.length 0 from rfl, HY.out] at dx
    gi_wp2
    have CT := Aside0.mk (HTL.out.call s pre (xi, xv) W1.drew _ (by exact hlt) (by have h := HS3.out; rw [List.append_assoc] at h; exact h))
    dsimp only at CT
    rw [HY.out] at CT
    refine BR.tail_round 7 (by kernel_rfl) (by kernel_rfl) (by kernel_rfl) ?_
    simp only [List.take_succ_cons, List.take_zero, List.drop_succ_cons, List.drop_zero]
    repeat still_step
    refine wpStill_nil ?_
    go_wp2_with fail
    refine CT.out.mono ?_
    clear CT
    rintro e W2 ⟨rfl, s', h6, h7⟩
    have FB := Aside0.mk (fin_told HP.out.2 h7 h6)
    have HS4 := Aside0.mk h6.right.right
    clear h6 h7
    go_wp2
    refine BR.OnlyN.normal ?_
    clear d0 d6 d7 f7 dx HRW
    have d7 : (_ : Option Value) = some (.int .i64 (pre.length : Int)) := (blk_cell (HS4.out.blk 7 rfl) 0).trans rfl
    have f7 := blk_frozen (HS4.out.blk 7 rfl) 0
    gi_wp2
    have hwr : wrap64 ((pre.length : Int) + 1) = (pre.length : Int) + 1 := Y1.w64 (by omega) (by have := HBN.out; omega)
    rw [hwr]
    have KK := HK.out s pre W gg _ HSW.out
    refine ⟨keepsC FB.out.1 KK.2, stay_only FB.out.1 (fun x hx => ⟨Nat.lt_of_lt_of_le (HKL.out x hx) HZ.out, KK.1 x hx⟩), Nat.le_trans HZ.out FB.out.1.size, s', ?_⟩
    rw [HGG.out, HJ.out]
    exact FB.out.2
  case hdone =>
    rintro D ys W hD rfl ⟨hz6, s, hs7⟩ hK
    rw [hm] at hs7
    have HS7 := Aside0.mk (by have h := sep_defC hs7 (HCE.out _ _ _ _) hD HW0.out hK; rw [List.append_assoc] at h; exact h)
    clear hz6 hs7 hD hK hs hT5 hB5 vs
    have HM := Aside0.mk hm
    clear hm
    have c5 : (_ : Option Value) = some (.pointer (some ⟨q, 0, none⟩)) := (blk_cell (HS7.out.right.blk 5 rfl) 0).trans rfl
    have c1 : (_ : Option Value) = some (.pointer none) := (blk_cell (HS7.out.right.blk 1 rfl) 0).trans rfl
    have c2 : (_ : Option Value) = some (.int .i64 0) := (blk_cell (HS7.out.right.blk 2 rfl) 0).trans rfl
    have f1 := blk_frozen (HS7.out.right.blk 1 rfl) 0
    have f2 := blk_frozen (HS7.out.right.blk 2 rfl) 0
    go_wp2
    have HS8 := (HS7.out.turn_blkR 1 rfl 0 (.pointer (some ⟨q, 0, none⟩))).turn_blkR 2 rfl 0 (.int .i64 0)
    have HS9 := HS8.shutR 9 rfl
    (try simp only [Exit.inBlock, Exit.then])
    refine leave1 (HS8.right.get 9 rfl) (results_cc (t := 6) (u := 7) (ty := 56) (uy := 33) (b := z + 1) (d := z + 1 + 1) rfl rfl rfl ((blk_cell (HS9.right.blk 1 rfl) 0).trans rfl) ((blk_cell (HS9.right.blk 2 rfl) 0).trans rfl) (run_isAgg_plain Tryd.underlying56 rfl _) (run_isAgg_plain Tryd.underlying33 rfl _)) ⟨s, q, qs, qo, qw, rfl, ?_⟩
    exact HS9.sub (List.Sublist.append (List.Sublist.refl _) (List.singleton_sublist.2 (List.mem_of_getElem? (i := 4) rfl)))
end Go.Proofs.YtofkkdjbilklcaaDoor.HS
