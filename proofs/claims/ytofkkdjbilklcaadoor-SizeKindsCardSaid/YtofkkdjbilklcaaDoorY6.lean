/- An array of another capacity, with nobody told: walked. -/
import Derived.Test.YtofkkdjbilklcaaDoorY5
import Derived.Test.YtofkkdjbilklcaaDoorBR
namespace Go.Proofs.YtofkkdjbilklcaaDoor.Y6
open Go.RowKit Go.Shelf Go.Proofs.YtofkkdjbilklcaaDoorW.PrintWords Go.Proofs.YtofkkdjbilklcaaDoorW.PrintLast Go.Proofs.YtofkkdjbilklcaaDoorW.PrintMore G1 G0 Q1 G2 G3 G4 G5 G6 G7 G8 G9 G10 S1 Y1 Y3 Y2 Y4
open L1 (capB)
set_option linter.unusedVariables false
set_option linter.unusedSimpArgs false
attribute [local go_sem] Oper.semAt_some
theorem resize1_any (x f t : Int) (w : World) : Calls Tryd.prog 91 #[.int .i64 x, .int .i64 f, .int .i64 t] w fun e w' => e = .returned (.tuple #[]) ∧ w = w' := by
  go_enter Tryd.func91, Tryd.ntmps91
  go_wp2
  go_end0
  exact ⟨rfl, rfl⟩
theorem results_cc {fn : Func} {t u : Nat} {ty uy : TypeId} {P : Program} {W : World} {tmps : Array Value} {b d : Nat} {v x : Value} (h : fn.results = #[.cell t ty, .cell u uy]) (ht : tmps.getD t undef = .pointer (some ⟨b, 0, none⟩)) (hu : tmps.getD u undef = .pointer (some ⟨d, 0, none⟩)) (hc : W.cell? ⟨b, 0, none⟩ = some v) (hd : W.cell? ⟨d, 0, none⟩ = some x) (ha : (isAgg ty).run P W = .ok false W) (hb : (isAgg uy).run P W = .ok false W) : (results fn tmps).run P W = .ok (.tuple #[v, x]) W := by
  have ht' : tmps[t]?.getD undef = .pointer (some ⟨b, 0, none⟩) := by simpa using ht
  have hu' : tmps[u]?.getD undef = .pointer (some ⟨d, 0, none⟩) := by simpa using hu
  simp [results, h, ht', hu', asAddr, loadVar, go_sem, ha, hb, hc, hd]
theorem lay_congr {S : Nat} {ps l : List Int} (r : List Int) : ∀ i, i ≤ l.length → layG S ps (l ++ r) i = layG S ps l i
  | 0, _ => rfl
  | i + 1, h => by
    have e : (l ++ r).getD i 0 = l.getD i 0 := by simp [List.getD_eq_getElem?_getD, List.getElem?_append_left (show i < l.length by omega)]
    show putS S (layG S ps (l ++ r) i) (ps.getD i 0) ((l ++ r).getD i 0) = _
    rw [lay_congr r i (by omega), e]
    rfl
theorem lay_snoc {S : Nat} {ps : List Int} (pre : List (Nat × Int)) (x : Nat × Int) : layG S ps (vals (pre ++ [x])) (pre ++ [x]).length = putS S (layG S ps (vals pre) pre.length) (ps.getD pre.length 0) x.2 := by
  have e1 : vals (pre ++ [x]) = vals pre ++ [x.2] := by simp [vals]
  have hl : (vals pre).length = pre.length := by simp [vals]
  rw [List.length_append, e1]
  show putS S (layG S ps (vals pre ++ [x.2]) pre.length) (ps.getD pre.length 0) ((vals pre ++ [x.2]).getD pre.length 0) = _
  rw [lay_congr _ _ (by omega)]
  congr 1
  simp [List.getD_eq_getElem?_getD, hl]
def ObjsR (z z2 q qs qo qw S : Nat) (A : Option Addr) (m c : Nat) (ps : List Int) (gg : Gap) (zk zb p : Nat) (kk : Int) (rp : Value) (fv : Value) : List Ob :=
  [Blk z #[fv] 32, Blk (z + 1) #[rp] 25, Blk (z + 1 + 1) #[.int .i64 0] 33, S1.Own (.slice A m c) ps, Arr q qs qo qw S gg, Blk z2 #[.pointer (some ⟨q, 0, none⟩)] 25, Blk (z2 + 1) #[.slice A m c] 22, Blk zk #[.int .i64 kk] 3, Blk zb #[.pointer (some ⟨p, 0, none⟩)] 25]
theorem fin_body {w W W1 W2 : World} {z z2 q qs qo qw S : Nat} {A : Option Addr} {m c : Nat} {ps : List Int} {gg gg' : Gap} {zk zb p : Nat} {j : Nat} {rp fv : Value}
    (hs : Sep w W.drew (ObjsR z z2 q qs qo qw S A m c ps gg zk zb p (j : Int) rp fv)) (h1 : Is W1 q qs qo qw S gg') (h2 : Only (Mine qs qw) W.drew W1) (hb2 : Below W1.heap.size W1 W2) :
    Only (fun x => x = qs ∨ x = qw ∨ x = zk) W (W2.setCell ⟨zk, 0, none⟩ (.int .i64 ((j : Int) + 1))) ∧ Sep w (W2.setCell ⟨zk, 0, none⟩ (.int .i64 ((j : Int) + 1))) (ObjsR z z2 q qs qo qw S A m c ps gg' zk zb p (((j + 1 : Nat) : Int)) rp fv) := by
  constructor
  · refine Only.trans (Only.of_below (below_drew (Below.refl _ W))) (Only.trans (h2.mono ?_) (Only.trans (Only.of_below hb2) (Only.set _ W2 (p := ⟨zk, 0, none⟩) (.inr (.inr rfl)) _)))
    rintro k (rfl | rfl)
    · exact .inl rfl
    · exact .inr (.inl rfl)
  · have h3 := ((hs.turn_arr 4 rfl h2 h1).step hb2).turn_blk 7 rfl 0 (.int .i64 ((j : Int) + 1))
    rw [show ((j + 1 : Nat) : Int) = (j : Int) + 1 by omega]
    exact h3
theorem run_nil (w : World) : (Go.binOp .eql 32 .nilFunc .nilFunc).run Tryd.prog w = .ok (.bool true) w := by kernel_rfl
set_option maxRecDepth 100000 in
set_option maxHeartbeats 32000000 in
theorem resize_yes {w : World} {p sb ob wb n : Nat} {g : Gap} (hI : Is w p sb ob wb n g) (hT : Tb w) {S k : Nat} (hc : capB (S : Int) = true) (hk : S = 8 * k) (hn : cntF g.on n ≤ S) :
    Calls Tryd.prog 45 #[.pointer (some ⟨p, 0, none⟩), .int .i64 S, .nilFunc] w fun e w' => ∃ p' sb' ob' wb', e = .returned (.tuple #[.pointer (some ⟨p', 0, none⟩), .int .i64 0]) ∧ Sep w w' [S1.Arr p' sb' ob' wb' S (layG S (plK (cntF g.on n) k 0 k) (vals (ons g.on g.xs n)) (cntF g.on n))] := by
  have HS := Aside0.mk ((((Sep.nil w).new_blk #[.nilFunc] 32).new_blk #[.pointer none] 25).new_blk #[.int .i64 0] 33)
  simp only [World.size_alloc] at HS
  have HI := Aside0.mk hI
  have HT := Aside0.mk hT
  obtain ⟨vs, hs⟩ := hI.below HS.out.below
  have CL := Aside0.mk (slen_any hs)
  have CE := Aside0.mk (fun w => empty_yes hc hk hn w)
  obtain ⟨k', hk', hk1, _⟩ := cap_nat hc
  have HRI := Aside0.mk (show Rise S (plK (cntF g.on n) k 0 k) by rw [hk]; exact pl_rise (by omega) (by omega))
  have HLn := Aside0.mk (pl_len (n := cntF g.on n) 0 (show 1 ≤ k by omega))
  clear hk' hk1
  clear hs vs hI hT hc hk hn
  refine callsIn_wide.1 (callsIn_of_wp_marks (n := 3) Tryd.func45 rfl trivial ?_ rfl)
  refine wpIn_wide.2 ?_
  simp only [Tryd.ntmps45, List.size_toArray, List.length_cons, List.length_nil, Nat.reduceAdd, Nat.reduceSub, Array.replicate_succ, Array.replicate_zero, List.push_toArray, List.append_toArray, List.nil_append, List.cons_append]
  go_wp2_with fail
  refine CL.out.mono ?_
  clear CL
  rintro e w1 ⟨rfl, hd⟩
  replace HS := Aside0.mk (HS.out.step hd.below)
  clear hd
  go_wp2_with fail
  refine (CE.out _).mono ?_
  clear CE
  rintro e w2 ⟨q, qs, qo, qw, A, c, rfl, hs2⟩
  replace HS := Aside0.mk (HS.out.append hs2)
  clear hs2
  replace HS := Aside0.mk ((HS.out.new_blk #[.pointer (some ⟨q, 0, none⟩)] 25).new_blk #[.slice A (cntF g.on n) c] 22)
  simp only [World.size_alloc] at HS
  generalize hz : w.heap.size = z at *
  generalize hz2 : w2.heap.size = z2 at *
  have f0 := blk_frozen (HS.out.blk 0 rfl) 0
  have c0 : (_ : Option Value) = some .nilFunc := (blk_cell (HS.out.blk 0 rfl) 0).trans rfl
  have hfn := fun w => run_nil w
  go_wp2_with fail
  refine (all_any _ _).mono ?_
  rintro e w4 ⟨rfl, rfl⟩
  replace HS := Aside0.mk (((HS.out.turn_blk 0 rfl 0 (.func (.func 91) #[] #[])).new_blk #[.int .i64 0] 3).new_blk #[.pointer (some ⟨p, 0, none⟩)] 25)
  clear f0 c0 hfn
  simp only [World.size_alloc, World.size_setCell, hz2] at HS ⊢
  generalize hw5 : ((((w2.alloc (.cells #[.pointer (some ⟨q, 0, none⟩)] 25)).alloc (.cells #[.slice A (cntF g.on n) c] 22)).setCell ⟨z, 0, none⟩ (.func (.func 91) #[] #[])).alloc (.cells #[.int .i64 0] 3)).alloc (.cells #[.pointer (some ⟨p, 0, none⟩)] 25) = w5 at *
  replace HS : Aside0 (Sep w w5 (ObjsR z z2 q qs qo qw S A (cntF g.on n) c (plK (cntF g.on n) k 0 k) (gap0 S) (z2 + 1 + 1) (z2 + 1 + 1 + 1) p 0 (.pointer none) (.func (.func 91) #[] #[]))) := HS
  clear hw5 hz2
  obtain ⟨vs, hs⟩ := HI.out.below HS.out.below
  have hT5 := Kd.C_below HT.out HS.out.below
  have hB5 := HS.out.blk 8 rfl
  have hm : (ons g.on g.xs n).length = cntF g.on n := ons_length _ _ _
  have HBN := Aside0.mk (show cntF g.on n ≤ 65536 from Nat.le_trans (cntF_le _ _) hs.bits.high)
  have hV : 1 < w.heap.size := by
    obtain ⟨ad, e, hx⟩ := Kd.at_int HT.out 0 (by omega) (by omega)
    cases e
    exact World.block_lt_of_cell? w _ hx
  have HF : Aside0 (∀ gg kk, ∀ o ∈ ObjsR z z2 q qs qo qw S A (cntF g.on n) c (plK (cntF g.on n) k 0 k) gg (z2 + 1 + 1) (z2 + 1 + 1 + 1) p kk (.pointer none) (.func (.func 91) #[] #[]), ∀ q ∈ o.F, q < w5.heap.size) := ⟨fun gg kk => foot_of (l := ObjsR z z2 q qs qo qw S A (cntF g.on n) c (plK (cntF g.on n) k 0 k) (gap0 S) (z2 + 1 + 1) (z2 + 1 + 1 + 1) p 0 (.pointer none) (.func (.func 91) #[] #[])) rfl fun o ho q hq => (HS.out.lo o ho q hq).2⟩
  have HN : Aside0 (∀ x ∈ [z2 + 1 + 1 + 1, p, sb, ob, wb, 1], x < w5.heap.size ∧ ¬ (x = qs ∨ x = qw ∨ x = z2 + 1 + 1)) := ⟨by
    have l1 := is_lt HI.out
    have l2 := HS.out.lo _ (List.mem_of_getElem? (i := 4) rfl)
    have l3 := HS.out.lo _ (List.mem_of_getElem? (i := 7) rfl)
    have l4 := (HS.out.lo _ (List.mem_of_getElem? (i := 8) rfl) (z2 + 1 + 1 + 1) (by simp [Blk])).2
    have a1 := l2 qs (by simp [Arr])
    have a2 := l2 qw (by simp [Arr])
    have a3 := l3 (z2 + 1 + 1) (by simp [Blk])
    have a4 := ap_ne HS.out.ap (i := 4) (j := 8) rfl rfl (by decide)
    have a5 := a4 qs (by simp [Arr])
    have a6 := a4 qw (by simp [Arr])
    simp only [Blk, List.mem_singleton] at a5 a6
    have hsz := HS.out.below.size
    have lt (x : Nat) (hx : x < w.heap.size) : x < w5.heap.size ∧ ¬ (x = qs ∨ x = qw ∨ x = z2 + 1 + 1) := ⟨by omega, by omega⟩
    intro x hx
    simp only [List.mem_cons, List.not_mem_nil, or_false] at hx
    rcases hx with rfl | rfl | rfl | rfl | rfl | rfl
    · exact ⟨l4, by omega⟩
    · exact lt _ (l1 _ (by simp))
    · exact lt _ (l1 _ (by simp))
    · exact lt _ (l1 _ (by simp))
    · exact lt _ (l1 _ (by simp))
    · exact lt _ hV⟩
  have HFB := Aside0.mk (fun W W1 W2 gg gg' (j : Nat) h1 h2 h3 h4 => fin_body (w := w) (W := W) (W1 := W1) (W2 := W2) (z := z) (z2 := z2) (q := q) (qs := qs) (qo := qo) (qw := qw) (S := S) (A := A) (m := cntF g.on n) (c := c) (ps := plK (cntF g.on n) k 0 k) (gg := gg) (gg' := gg') (zk := z2 + 1 + 1) (zb := z2 + 1 + 1 + 1) (p := p) (j := j) (rp := .pointer none) (fv := .func (.func 91) #[] #[]) h1 h2 h3 h4)
  have HQ3 : Aside0 (∀ x, x = qs ∨ x = qw ∨ x = z2 + 1 + 1 → x < w5.heap.size) := ⟨by
    rintro x (rfl | rfl | rfl)
    · exact HF.out (gap0 S) 0 _ (List.mem_of_getElem? (i := 4) rfl) _ (by simp [Arr])
    · exact HF.out (gap0 S) 0 _ (List.mem_of_getElem? (i := 4) rfl) _ (by simp [Arr])
    · exact HF.out (gap0 S) 0 _ (List.mem_of_getElem? (i := 7) rfl) _ (by simp [Blk])⟩
  clear hV
  go_wp2
  apply wpIn_wide.1
  apply wpIn_rangeFunc_ownG (F := Fence.wide) (n := 3) rfl (by omega) (gf := 115) (lb := #[.pointer (some ⟨z2 + 1 + 1 + 1, 0, none⟩)]) rfl trivial (enters_of Tryd.func115 (by kernel_rfl) rfl)
    (all_stopsN 2 (by omega) _ hB5 hs hT5) Stay.trans (fun W l o o' a b _ _ => stay_putObj (fun x hx => (HN.out x hx).1) W l o o' a b) (Below.refl _ _) (fun _ => rfl)
    (fun pre W => w5.heap.size ≤ W.heap.size ∧ Sep w W (ObjsR z z2 q qs qo qw S A (cntF g.on n) c (plK (cntF g.on n) k 0 k) (layG S (plK (cntF g.on n) k 0 k) (vals pre) pre.length) (z2 + 1 + 1) (z2 + 1 + 1 + 1) p (pre.length : Int) (.pointer none) (.func (.func 91) #[] #[])))
    (fun _ _ _ => False)
    (fun pre W W' row h hg hr => ⟨Nat.le_trans h.1 hg.size, sep_grow h.2 (HF.out _ _) hg (fun r e => (hr r e).1) HS.out.below.size⟩)
    (fun _ _ _ _ _ hs _ _ => hs) ⟨Nat.le_refl _, HS.out⟩
  case hassign =>
    intro l x W K hK
    have HK := Aside0.mk hK
    clear hK
    gi_wp2
    exact HK.out
  case hstop =>
    rintro D c pre W _ hpre h _
    exact h.elim
  case hbody =>
    clear hs hT5 hB5 hm vs
    rintro l pre ⟨xi, xv⟩ W ⟨hz6, hs⟩ hlt
    have HZ := Aside0.mk hz6
    have HS2 := Aside0.mk (hs.step (below_drew (Below.refl W.heap.size W)))
    have HSN := Aside0.mk (lay_snoc (S := S) (ps := plK (cntF g.on n) k 0 k) pre (xi, xv))
    have hle : pre.length ≤ (plK (cntF g.on n) k 0 k).length := by rw [HLn.out]; omega
    have HPT := Aside0.mk (lay_put (l := vals pre) HRI.out (by rw [HLn.out]; exact hlt))
    obtain ⟨ad, e, hx⟩ := Kd.at_int (HS2.out.row 3 rfl).2.2 (pre.length : Int) (by omega) (by omega)
    cases e
    rw [Int.toNat_natCast, show rd (plK (cntF g.on n) k 0 k) (pre.length : Int) = (plK (cntF g.on n) k 0 k).getD pre.length 0 from rfl] at hx
    have c5 : (_ : Option Value) = some (.pointer (some ⟨q, 0, none⟩)) := (blk_cell (HS2.out.blk 5 rfl) 0).trans rfl
    have c6 : (_ : Option Value) = some (.slice (some ad) (cntF g.on n) c) := (blk_cell (HS2.out.blk 6 rfl) 0).trans rfl
    have c7 : (_ : Option Value) = some (.int .i64 (pre.length : Int)) := (blk_cell (HS2.out.blk 7 rfl) 0).trans rfl
    have CP := put_any (HS2.out.arr 4 rfl) ((plK (cntF g.on n) k 0 k).getD pre.length 0) xv
    rw [HPT.out] at CP
    replace CP := Aside0.mk CP
    have HRW := Aside0.mk (fun (W : World) (h : Kd.C (Kd.int .i64) W (some ad) (cntF g.on n) (plK (cntF g.on n) k 0 k)) => (Kd.at_int h (pre.length : Int) (by omega) (by omega)))
    dsimp only at HSN
    generalize hy : (plK (cntF g.on n) k 0 k).getD pre.length 0 = y at *
    generalize layG S (plK (cntF g.on n) k 0 k) (vals pre) pre.length = gg at *
    generalize hgg : layG S (plK (cntF g.on n) k 0 k) (vals (pre ++ [(xi, xv)])) (pre ++ [(xi, xv)]).length = gg' at *
    have HGG := Aside0.mk hgg
    clear hgg
    have HY := Aside0.mk hy
    have HJ := Aside0.mk (show (pre ++ [(xi, xv)]).length = pre.length + 1 by simp)
    have b0 : (0 : Int) ≤ (pre.length : Int) := by omega
    have b1 : (pre.length : Int) < (cntF g.on n : Int) := by omega
    clear hz6 hs hle HPT hy
    gi_wp2
    refine BR.tail_round 6 (by kernel_rfl) (by kernel_rfl) (by kernel_rfl) ?_
    simp only [List.take_succ_cons, List.take_zero, List.drop_succ_cons, List.drop_zero]
    repeat still_step
    refine wpStill_nil ?_
    go_wp2_with fail
    refine CP.out.mono ?_
    rintro e W1 ⟨rfl, h4, h5⟩
    rw [← HSN.out] at h4
    have HP := Aside0.mk (And.intro h4 h5)
    clear h4 h5
    go_wp2
    refine BR.OnlyN.normal ?_
    have HS3 := Aside0.mk (HS2.out.turn_arr 4 rfl HP.out.2 HP.out.1)
    clear hx c5 c6 c7 CP
    have d0 : (_ : Option Value) = some (.func (.func 91) #[] #[]) := (blk_cell (HS3.out.blk 0 rfl) 0).trans rfl
    have d6 : (_ : Option Value) = some (.slice (some ad) (cntF g.on n) c) := (blk_cell (HS3.out.blk 6 rfl) 0).trans rfl
    have d7 : (_ : Option Value) = some (.int .i64 (pre.length : Int)) := (blk_cell (HS3.out.blk 7 rfl) 0).trans rfl
    have f7 := blk_frozen (HS3.out.blk 7 rfl) 0
    obtain ⟨ad2, e2, dx⟩ := HRW.out _ (HS3.out.row 3 rfl).2.2
    cases e2
    rw [Int.toNat_natCast, show rd (plK (cntF g.on n) k 0 k) (pre.length : Int) = (plK (cntF g.on n) k 0 k).getD pre.length 0 from rfl, HY.out] at dx
    gi_wp2
    refine BR.quiet_round (by kernel_rfl) (by kernel_rfl) (by kernel_rfl) ?_
    repeat (go_big_quiet_step ((go_at_call 91; exact Calls.quiet_of_same ((resize1_any _ _ _ _).mono fun _ _ ⟨a, b⟩ => ⟨a, b.symm⟩))))
    refine wpQuiet_nil ?_
    intro _ hw'
    obtain ⟨nq, hw''⟩ := hw'
    subst hw''
    have HB2 := Aside0.mk (pw_below_drewN (Below.refl W1.heap.size W1) nq)
    generalize W1.drewN nq = W2 at *
    have FB := Aside0.mk (HFB.out W W1 W2 gg gg' pre.length HS2.out HP.out.1 HP.out.2 HB2.out)
    have HS4 := Aside0.mk (HS3.out.step HB2.out)
    clear d0 d6 d7 f7 dx HRW
    have d7 : (_ : Option Value) = some (.int .i64 (pre.length : Int)) := (blk_cell (HS4.out.blk 7 rfl) 0).trans rfl
    have f7 := blk_frozen (HS4.out.blk 7 rfl) 0
    gi_wp2
    have hwr : wrap64 ((pre.length : Int) + 1) = (pre.length : Int) + 1 := Y1.w64 (by omega) (by have := HBN.out; omega)
    rw [hwr]
    replace FB : Aside0 (Only (fun x => x = qs ∨ x = qw ∨ x = z2 + 1 + 1) W (W2.setCell ⟨z2 + 1 + 1, 0, none⟩ (.int .i64 ((pre.length : Int) + 1))) ∧ Sep w (W2.setCell ⟨z2 + 1 + 1, 0, none⟩ (.int .i64 ((pre.length : Int) + 1))) (ObjsR z z2 q qs qo qw S (some ad) (cntF g.on n) c (plK (cntF g.on n) k 0 k) gg' (z2 + 1 + 1) (z2 + 1 + 1 + 1) p (((pre.length + 1 : Nat) : Int)) (.pointer none) (.func (.func 91) #[] #[]))) := FB
    refine ⟨keeps_only FB.out.1 HQ3.out, stay_only FB.out.1 (fun x hx => ⟨Nat.lt_of_lt_of_le (HN.out x hx).1 HZ.out, (HN.out x hx).2⟩), Nat.le_trans HZ.out FB.out.1.size, ?_⟩
    rw [HGG.out, HJ.out]
    exact FB.out.2
  case hdone =>
    rintro D ys W hD rfl ⟨hz6, hs7⟩ hK
    rw [hm] at hs7
    have HS7 := Aside0.mk (sep_def hs7 (HF.out _ _) hD HS.out.below.size hK)
    clear hz6 hs7 hD hK hs hT5 hB5 vs
    have HM := Aside0.mk hm
    clear hm
    have c5 : (_ : Option Value) = some (.pointer (some ⟨q, 0, none⟩)) := (blk_cell (HS7.out.blk 5 rfl) 0).trans rfl
    have c1 : (_ : Option Value) = some (.pointer none) := (blk_cell (HS7.out.blk 1 rfl) 0).trans rfl
    have c2 : (_ : Option Value) = some (.int .i64 0) := (blk_cell (HS7.out.blk 2 rfl) 0).trans rfl
    have f1 := blk_frozen (HS7.out.blk 1 rfl) 0
    have f2 := blk_frozen (HS7.out.blk 2 rfl) 0
    go_wp2
    have HS8 := (HS7.out.turn_blk 1 rfl 0 (.pointer (some ⟨q, 0, none⟩))).turn_blk 2 rfl 0 (.int .i64 0)
    have HS9 := sep_shut HS8 9 rfl
    (try simp only [Exit.inBlock, Exit.then])
    refine leave1 (HS8.get 9 rfl) (results_cc (t := 6) (u := 7) (ty := 25) (uy := 33) (b := z + 1) (d := z + 1 + 1) rfl rfl rfl ((blk_cell (HS9.blk 1 rfl) 0).trans rfl) ((blk_cell (HS9.blk 2 rfl) 0).trans rfl) (run_isAgg_plain Tryd.underlying25 rfl _) (run_isAgg_plain Tryd.underlying33 rfl _)) ⟨q, qs, qo, qw, rfl, ?_⟩
    exact (HS9.take 5).tail.tail.tail.tail
end Go.Proofs.YtofkkdjbilklcaaDoor.Y6
