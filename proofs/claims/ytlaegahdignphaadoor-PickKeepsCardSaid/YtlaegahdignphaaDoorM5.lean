/- The window that is spread: find. -/
import Derived.Test.YtlaegahdignphaaDoorM4
import Derived.Stop.RegionWithIn
import Derived.Sort.CutIn
namespace Go.Proofs.YtlaegahdignphaaDoor.M5
open Go.RowKit Go.Shelf Go.Proofs.YtlaegahdignphaaDoorW.PrintWords Go.Proofs.YtlaegahdignphaaDoorW.PrintLast Go.Proofs.YtlaegahdignphaaDoorW.PrintMore Q2 L1 L3 S1 M1 M2 M3 M4
set_option linter.unusedVariables false
set_option linter.unusedSimpArgs false
attribute [local go_sem] Oper.semAt_some

theorem results_cttt {P : Program} {fn : Func} {p u v x : Tmp} {ty : TypeId} (h : fn.results = #[.cell p ty, .tmp u, .tmp v, .tmp x]) (tmps : Array Value) (w : World) (g : Nat) (t : TypeId) (cs : Array Value) (fr : Nat × Nat) (d : TypeDesc)
    (hp : tmps.getD p undef = .pointer (some ⟨g, 0, none⟩)) (hg : w.heap[g]? = some (.cells cs t fr))
    (hu : P.underlying ty = some d) (hd : (match d with | .struct _ | .array _ _ => true | _ => false) = true) (hi : (P.info? ty).map (·.size) = some cs.size) :
    (results fn tmps).run P w = .ok (.tuple #[.agg cs, tmps.getD u undef, tmps.getD v undef, tmps.getD x undef]) w := by
  have hp' : tmps[p]?.getD undef = .pointer (some ⟨g, 0, none⟩) := by simpa using hp
  simp [results, h, hp', asAddr, run_loadVar_row w g t ty cs fr d hg hu hd hi]
theorem size_win : (Tryd.prog.info? 61).map (·.size) = some 3 := by kernel_rfl
def win0 : Array Value := #[.int .i64 0, .int .i64 0, .int .i64 0]
theorem find_wrong {w : World} {A : Option Addr} {c : Nat} {l : List Int} (hr : Kd.C (Kd.int .i64) w A l.length l) (s : Int) (h : ckE l ≠ 0) :
    Calls Tryd.prog 56 #[.slice A l.length c, .int .i64 s] w fun e w' => e = .returned (.tuple #[.agg #[.int .i64 0, .int .i64 0, .int .i64 0], .int .i64 0, .bool false, .int .i64 (ckE l)]) ∧ Below w.heap.size w w' := by
  have hs0 := ((Sep.nil w).new_blk #[.slice A l.length c] 38).new_blk win0 61
  have HS := Aside0.mk hs0
  simp only [World.size_alloc] at HS
  have HR := Aside0.mk hr
  have c0 : (_ : Option Value) = some (.slice A l.length c) := (blk_cell (blk_alloc (blk_new w (.cells #[.slice A l.length c] 38)) (.cells win0 61)) 0).trans rfl
  have C := check_any (c := c) (Kd.C_below hr hs0.below)
  clear hr hs0
  unfold win0 at *
  have C := Aside0.mk C
  have q : (ckE l != 0) = true := by rw [bne_iff_ne]; exact h
  clear h
  generalize ckE l = ce at *
  refine callsIn_wide.1 (callsIn_of_wp_marks (n := 3) Tryd.func56 rfl trivial ?_ rfl)
  refine wpIn_wide.2 ?_
  simp only [Tryd.ntmps56, List.size_toArray, List.length_cons, List.length_nil, Nat.reduceAdd, Nat.reduceSub, Array.replicate_succ, Array.replicate_zero, List.push_toArray, List.append_toArray, List.nil_append, List.cons_append]
  go_wp2
  go_step3
  go_wp2_with fail
  refine C.out.mono ?_
  rintro e w1 ⟨rfl, hd⟩
  replace HS := Aside0.mk (HS.out.step hd.below)
  clear hd c0 C
  have c0 : (_ : Option Value) = some (.slice A l.length c) := (blk_cell (HS.out.blk 0 rfl) 0).trans rfl
  have d0 : (_ : Option Value) = some (.int .i64 0) := (blk_cell (HS.out.blk 1 rfl) 0).trans rfl
  have d1 : (_ : Option Value) = some (.int .i64 0) := (blk_cell (HS.out.blk 1 rfl) 1).trans rfl
  have d2 : (_ : Option Value) = some (.int .i64 0) := (blk_cell (HS.out.blk 1 rfl) 2).trans rfl
  have f0 := blk_frozen (HS.out.blk 1 rfl) 0
  have f1 := blk_frozen (HS.out.blk 1 rfl) 1
  have f2 := blk_frozen (HS.out.blk 1 rfl) 2
  go_wp2
  replace HS := Aside0.mk (((HS.out.turn_blk 1 rfl 0 (.int .i64 0)).turn_blk 1 rfl 1 (.int .i64 0)).turn_blk 1 rfl 2 (.int .i64 0))
  (try rw [Exit.noGoto_ret])
  (try simp only [Exit.inBlock, Exit.then])
  exact leave0 (results_cttt (p := 4) (ty := 61) rfl _ _ (w.heap.size + 1) 61 _ (0, 0) _ rfl (HS.out.blk 1 rfl) Tryd.underlying61 rfl size_win) ⟨rfl, HS.out.below⟩
theorem find_out {w : World} {A : Option Addr} {c : Nat} {l : List Int} (hr : Kd.C (Kd.int .i64) w A l.length l) (s : Int) (h : ckE l = 0) (h2 : s < 0 ∨ (l.length : Int) ≤ s) :
    Calls Tryd.prog 56 #[.slice A l.length c, .int .i64 s] w fun e w' => e = .returned (.tuple #[.agg #[.int .i64 0, .int .i64 0, .int .i64 0], .int .i64 0, .bool false, .int .i64 10]) ∧ Below w.heap.size w w' := by
  have hs0 := ((Sep.nil w).new_blk #[.slice A l.length c] 38).new_blk win0 61
  have HS := Aside0.mk hs0
  simp only [World.size_alloc] at HS
  have HR := Aside0.mk hr
  have c0 : (_ : Option Value) = some (.slice A l.length c) := (blk_cell (blk_alloc (blk_new w (.cells #[.slice A l.length c] 38)) (.cells win0 61)) 0).trans rfl
  have C := check_any (c := c) (Kd.C_below hr hs0.below)
  clear hr hs0
  unfold win0 at *
  rw [h] at C
  have C := Aside0.mk C
  clear h
  by_cases h3 : s < 0
  · clear h2
    refine callsIn_wide.1 (callsIn_of_wp_marks (n := 3) Tryd.func56 rfl trivial ?_ rfl)
    refine wpIn_wide.2 ?_
    simp only [Tryd.ntmps56, List.size_toArray, List.length_cons, List.length_nil, Nat.reduceAdd, Nat.reduceSub, Array.replicate_succ, Array.replicate_zero, List.push_toArray, List.append_toArray, List.nil_append, List.cons_append]
    go_wp2
    go_step3
    go_wp2_with fail
    refine C.out.mono ?_
    rintro e w1 ⟨rfl, hd⟩
    replace HS := Aside0.mk (HS.out.step hd.below)
    clear hd c0 C
    have c0 : (_ : Option Value) = some (.slice A l.length c) := (blk_cell (HS.out.blk 0 rfl) 0).trans rfl
    have d0 : (_ : Option Value) = some (.int .i64 0) := (blk_cell (HS.out.blk 1 rfl) 0).trans rfl
    have d1 : (_ : Option Value) = some (.int .i64 0) := (blk_cell (HS.out.blk 1 rfl) 1).trans rfl
    have d2 : (_ : Option Value) = some (.int .i64 0) := (blk_cell (HS.out.blk 1 rfl) 2).trans rfl
    have f0 := blk_frozen (HS.out.blk 1 rfl) 0
    have f1 := blk_frozen (HS.out.blk 1 rfl) 1
    have f2 := blk_frozen (HS.out.blk 1 rfl) 2
    go_wp2
    replace HS := Aside0.mk (((HS.out.turn_blk 1 rfl 0 (.int .i64 0)).turn_blk 1 rfl 1 (.int .i64 0)).turn_blk 1 rfl 2 (.int .i64 0))
    (try rw [Exit.noGoto_ret])
    (try simp only [Exit.inBlock, Exit.then])
    exact leave0 (results_cttt (p := 4) (ty := 61) rfl _ _ (w.heap.size + 1) 61 _ (0, 0) _ rfl (HS.out.blk 1 rfl) Tryd.underlying61 rfl size_win) ⟨rfl, HS.out.below⟩
  · have h4 : (l.length : Int) ≤ s := by omega
    clear h2
    refine callsIn_wide.1 (callsIn_of_wp_marks (n := 3) Tryd.func56 rfl trivial ?_ rfl)
    refine wpIn_wide.2 ?_
    simp only [Tryd.ntmps56, List.size_toArray, List.length_cons, List.length_nil, Nat.reduceAdd, Nat.reduceSub, Array.replicate_succ, Array.replicate_zero, List.push_toArray, List.append_toArray, List.nil_append, List.cons_append]
    go_wp2
    go_step3
    go_wp2_with fail
    refine C.out.mono ?_
    rintro e w1 ⟨rfl, hd⟩
    replace HS := Aside0.mk (HS.out.step hd.below)
    clear hd c0 C
    have c0 : (_ : Option Value) = some (.slice A l.length c) := (blk_cell (HS.out.blk 0 rfl) 0).trans rfl
    have d0 : (_ : Option Value) = some (.int .i64 0) := (blk_cell (HS.out.blk 1 rfl) 0).trans rfl
    have d1 : (_ : Option Value) = some (.int .i64 0) := (blk_cell (HS.out.blk 1 rfl) 1).trans rfl
    have d2 : (_ : Option Value) = some (.int .i64 0) := (blk_cell (HS.out.blk 1 rfl) 2).trans rfl
    have f0 := blk_frozen (HS.out.blk 1 rfl) 0
    have f1 := blk_frozen (HS.out.blk 1 rfl) 1
    have f2 := blk_frozen (HS.out.blk 1 rfl) 2
    go_wp2
    replace HS := Aside0.mk (((HS.out.turn_blk 1 rfl 0 (.int .i64 0)).turn_blk 1 rfl 1 (.int .i64 0)).turn_blk 1 rfl 2 (.int .i64 0))
    (try rw [Exit.noGoto_ret])
    (try simp only [Exit.inBlock, Exit.then])
    exact leave0 (results_cttt (p := 4) (ty := 61) rfl _ _ (w.heap.size + 1) 61 _ (0, 0) _ rfl (HS.out.blk 1 rfl) Tryd.underlying61 rfl size_win) ⟨rfl, HS.out.below⟩
theorem height_nat {l : List Int} (h : Caps l) (hc : capB (8 * (l.length : Int)) = true) {w : World} (hT : Tb w) : Calls Tryd.prog 19 #[.int .i64 (8 * (l.length : Int))] w fun e w' => e = .returned (.tuple #[.int .i64 (hN l), .int .i64 0]) ∧ Drawn0 w w' := by
  have C := height_any (8 * (l.length : Int)) w hT
  rw [hc, if_pos rfl, h.h] at C
  exact C
theorem stay_putObj {K : List Nat} {w : World} (hK : ∀ k ∈ K, k < w.heap.size) (W : World) (l : Nat) (o o' : Obj) (hl : w.heap.size ≤ l) (hg : W.heap[l]? = some o) : Stay K W (W.putObj l o') := fun k hk =>
  (grownBy_putObj' W l o').block k (Nat.lt_of_lt_of_le (hK k hk) (Nat.le_of_lt (Nat.lt_of_le_of_lt hl (blk_lt hg)))) (fun e => by have := Option.some.inj e; have := hK k hk; omega)
def winC (s k : Nat) : Array Value := #[.int .i64 k, .int .i64 (wF s k : Nat), .int .i64 (pw k : Nat)]
def FO (w0 b2 : Nat) (A : Option Addr) (n c h s : Nat) (fw : Array Value) (is : Bool) : List Ob :=
  [Blk w0 #[.slice A n c] 38, Blk (w0 + 1) win0 61, Blk b2 #[.int .i64 h] 3, Blk (b2 + 1) fw 61, Blk (b2 + 1 + 1) #[.bool is] 4, Blk (b2 + 1 + 1 + 1) #[.int .i64 s] 3, Blk (b2 + 1 + 1 + 1 + 1) #[.int .i64 h] 3]
def FR (w0 b2 : Nat) (A : Option Addr) (n c h s k bv : Nat) : Act := { tmps := #[.slice A n c, .int .i64 s, .pointer (some ⟨w0, 0, none⟩), undef, .pointer (some ⟨w0 + 1, 0, none⟩), .int .i64 0, .bool false, .int .i64 0, .int .i64 0, .pointer (some ⟨b2, 0, none⟩), .int .i64 0, .pointer (some ⟨b2 + 1, 0, none⟩), .pointer (some ⟨b2 + 1 + 1, 0, none⟩), .pointer (some ⟨bv, 0, none⟩), undef, undef, .slice A n c, .int .i64 0, .int .i64 0, .bool false, undef, undef, .int .i64 s, .bool (decide ((s : Int) < 0)), .bool (decide ((s : Int) < 0)), .int .i64 s, .slice A n c, .int .i64 n, .bool false, .bool (decide ((s : Int) < 0)), undef, .tuple #[.int .i64 h, .int .i64 0], .slice A n c, .int .i64 n, .int .i64 (8 * (n : Int)), .tuple #[.int .i64 h, .int .i64 0], .int .i64 h, .int .i64 0, .int .i64 0, .bool false, undef, undef, .int .i64 s, .int .i64 h, .func (.func 82) #[] #[.pointer (some ⟨b2 + 1 + 1 + 1 + 1, 0, none⟩), .pointer (some ⟨b2 + 1 + 1 + 1, 0, none⟩)], .agg #[.int .i64 k, .int .i64 (wF s k : Nat), .int .i64 (pw k : Nat)], undef, undef, undef, undef, undef, undef, undef, undef, undef, undef, undef, undef, undef, undef, undef, undef, undef, undef, undef, undef], defers := [] }
theorem count_any {l : List Int} (hg : goodL l) (hl : l.length ≤ 4096) {f n : Nat} (h : f + n ≤ l.length) (a : Int) {w : World} {A : Option Addr} {c : Nat} (hr : Kd.C (Kd.int .i64) w A l.length l) (hlc : l.length ≤ c) :
    Calls Tryd.prog 76 #[.agg #[.int .i64 a, .int .i64 f, .int .i64 n], .slice A l.length c] w fun e w' => e = .returned (.int .i64 (sumW l f n)) ∧ Below w.heap.size w w' := by
  obtain ⟨K, hK⟩ := count_ev hg hl h a
  exact pick_window_count.calls K a f n A c l _ w hr hlc (hK K (Nat.le_refl _))
theorem within_nat {l : List Int} (hg : goodL l) (hcp : Caps l) {f n k : Nat} (hk : k ≤ hN l) (w : World) :
    Calls Tryd.prog 28 #[.int .i64 (sumW l f n), .int .i64 k, .int .i64 (hN l)] w fun e w' => e = .returned (.tuple #[.int .i64 (withN (sumW l f n) k (hN l)), .int .i64 0]) ∧ Drawn0 w w' := by
  have C := within_any (sumW l f n) k (hN l) w
  have hm : mayB (k : Int) (hN l : Int) = true := decide_eq_true (by have := hcp.h2; have := hcp.h9; omega)
  have hb := sumW_bound hg (by have := hcp.le; omega) f n
  unfold wiN wiE at C
  rw [hm, if_neg (by simp), if_neg (by omega), if_neg (by simp), if_neg (by omega)] at C
  exact C
/-- What is told. -/
def fndV (l : List Int) (s : Nat) : Value := match lvl l s with
  | some k => .tuple #[.agg (winC s k), .int .i64 (hN l), .bool true, .int .i64 0]
  | none => .tuple #[.agg win0, .int .i64 (hN l), .bool false, .int .i64 0]
set_option maxRecDepth 100000 in
set_option maxHeartbeats 40000000 in
theorem find_yes {w : World} {A : Option Addr} {c : Nat} {l : List Int} (hr : Kd.C (Kd.int .i64) w A l.length l) (hlc : l.length ≤ c) (hT : Tb w) (s : Nat) (h : ckE l = 0) (hcap : capB (8 * (l.length : Int)) = true) (hg : goodL l) (h2 : s < l.length) :
    Calls Tryd.prog 56 #[.slice A l.length c, .int .i64 s] w fun e w' => e = .returned (fndV l s) ∧ Below w.heap.size w w' := by
  have hcp := caps_of hcap
  have hlen := hcp.le
  have HC := Aside0.mk (And.intro hcp hcap)
  have HT := Aside0.mk hT
  have HG := Aside0.mk hg
  have HLC := Aside0.mk hlc
  have h9 := hcp.h9
  clear hcap hg hlc hT hcp
  have hs0 := ((Sep.nil w).new_blk #[.slice A l.length c] 38).new_blk win0 61
  have HS := Aside0.mk hs0
  simp only [World.size_alloc] at HS
  have HR := Aside0.mk hr
  have c0 : (_ : Option Value) = some (.slice A l.length c) := (blk_cell (blk_alloc (blk_new w (.cells #[.slice A l.length c] 38)) (.cells win0 61)) 0).trans rfl
  have C := check_any (c := c) (Kd.C_below hr hs0.below)
  clear hr hs0
  unfold win0 at *
  rw [h] at C
  have C := Aside0.mk C
  clear h
  refine callsIn_wide.1 (callsIn_of_wp_marks (n := 3) Tryd.func56 rfl trivial ?_ rfl)
  refine wpIn_wide.2 ?_
  simp only [Tryd.ntmps56, List.size_toArray, List.length_cons, List.length_nil, Nat.reduceAdd, Nat.reduceSub, Array.replicate_succ, Array.replicate_zero, List.push_toArray, List.append_toArray, List.nil_append, List.cons_append]
  go_wp2
  go_step3
  go_wp2_with fail
  refine C.out.mono ?_
  rintro e w1 ⟨rfl, hd⟩
  replace HS := Aside0.mk (HS.out.step hd.below)
  clear hd c0 C
  have c0 : (_ : Option Value) = some (.slice A l.length c) := (blk_cell (HS.out.blk 0 rfl) 0).trans rfl
  have d0 : (_ : Option Value) = some (.int .i64 0) := (blk_cell (HS.out.blk 1 rfl) 0).trans rfl
  have d1 : (_ : Option Value) = some (.int .i64 0) := (blk_cell (HS.out.blk 1 rfl) 1).trans rfl
  have d2 : (_ : Option Value) = some (.int .i64 0) := (blk_cell (HS.out.blk 1 rfl) 2).trans rfl
  have f0 := blk_frozen (HS.out.blk 1 rfl) 0
  have f1 := blk_frozen (HS.out.blk 1 rfl) 1
  have f2 := blk_frozen (HS.out.blk 1 rfl) 2
  have C := Aside0.mk (height_nat HC.out.1 HC.out.2 (Kd.C_below HT.out HS.out.below))
  go_wp2_with fail
  refine C.out.mono ?_
  clear C c0 d0 d1 d2 f0 f1 f2
  rintro e w2 ⟨rfl, hd⟩
  replace HS := Aside0.mk ((((HS.out.step hd.below).new_blk #[.int .i64 (hN l)] 3).new_blk win0 61).new_blk #[.bool false] 4)
  clear hd
  simp only [World.size_alloc] at HS
  have t0 : (_ : Option Value) = some (.int .i64 (hN l)) := (blk_cell (HS.out.blk 2 rfl) 0).trans rfl
  unfold win0 at t0
  go_wp2
  go_step3
  go_wp2_with fail
  refine (windows_any _ _ _).mono ?_
  rintro e w3 ⟨rfl, rfl⟩
  clear t0
  replace HS := Aside0.mk ((HS.out.new_blk #[.int .i64 s] 3).new_blk #[.int .i64 (hN l)] 3)
  unfold win0 at HS
  simp only [World.size_alloc] at HS ⊢
  generalize hw3 : (World.alloc _ (.cells #[.int .i64 s] 3)).alloc (.cells #[.int .i64 (hN l)] 3) = w3 at *
  clear hw3
  generalize w2.heap.size = b2 at *
  replace HS : Aside0 (Sep w w3 (FO w.heap.size b2 A l.length c (hN l) s win0 false)) := HS
  have HF : Aside0 (∀ (fw : Array Value) (is : Bool), ∀ o ∈ FO w.heap.size b2 A l.length c (hN l) s fw is, ∀ q ∈ o.F, q < w3.heap.size) := ⟨fun fw is => foot_of (l := FO w.heap.size b2 A l.length c (hN l) s win0 false) rfl fun o ho q hq => (HS.out.lo o ho q hq).2⟩
  have HQ : Aside0 (∀ k ∈ [b2 + 1 + 1 + 1 + 1, b2 + 1 + 1 + 1], k < w3.heap.size) := ⟨fun k hk => by
    simp only [List.mem_cons, List.not_mem_nil, or_false] at hk
    rcases hk with rfl | rfl
    · exact HF.out win0 false _ (List.mem_of_getElem? (i := 6) rfl) _ (by simp [Blk])
    · exact HF.out win0 false _ (List.mem_of_getElem? (i := 5) rfl) _ (by simp [Blk])⟩
  have hseq := win_stops 2 (by omega) (show s < 512 by omega) h9 (HS.out.blk 6 rfl) (HS.out.blk 5 rfl)
  go_wp2
  apply wpIn_wide.1
  refine wpIn_rangeFunc_ownH (F := Fence.wide) (n := 3) rfl (by omega) (gf := 82) (lb := #[.pointer (some ⟨b2 + 1 + 1 + 1 + 1, 0, none⟩), .pointer (some ⟨b2 + 1 + 1 + 1, 0, none⟩)]) rfl trivial (enters_of Tryd.func82 (by kernel_rfl) rfl)
    hseq Stay.trans (fun W l o o' a b _ _ => stay_putObj HQ.out W l o o' a b) (Below.refl _ _) (fun _ => rfl)
    (fun (pre : List (Fin (hN l + 1))) W => ((∀ x ∈ pre, okW l s x = false) ∧ w3.heap.size ≤ W.heap.size) ∧ Sep w W (FO w.heap.size b2 A l.length c (hN l) s win0 false))
    (fun c1 (pre : List (Fin (hN l + 1))) W => (c1 = .exit 0 ∧ ∃ (pre' : List (Fin (hN l + 1))) (x : Fin (hN l + 1)), pre = pre' ++ [x] ∧ (∀ y ∈ pre', okW l s y = false) ∧ okW l s x = true ∧ Sep w W (FO w.heap.size b2 A l.length c (hN l) s (winC s x) true)))
    (fun pre W W' row h hg hr => ⟨⟨h.1.1, Nat.le_trans h.1.2 hg.size⟩, sep_grow h.2 (HF.out _ _) hg (fun r e => (hr r e).1) HS.out.below.size⟩)
    (fun _ _ _ _ _ hs hg hr => ⟨hs.1, by obtain ⟨p', x, e1, e2, e3, e4⟩ := hs.2; exact ⟨p', x, e1, e2, e3, sep_grow e4 (HF.out _ _) hg (fun r e => (hr r e).1) HS.out.below.size⟩⟩)
    ⟨⟨(fun x hx => by cases hx), Nat.le_refl _⟩, HS.out⟩
    (fun x a' W => ∃ bv, a' = FR w.heap.size b2 A l.length c (hN l) s x bv ∧ W.heap[bv]? = some (Obj.cells (winC s x) 61 (0, 0)))
    (fun x a' _ W W' row h hg hr => by
      obtain ⟨bv, e, hb⟩ := h
      exact ⟨bv, e, (hg.block bv (blk_lt hb) (fun e => by obtain ⟨_, o, ho, hc⟩ := hr bv e.symm; rw [hb] at ho; cases ho; cases hc)).trans hb⟩) ?hassign ?hbody ?hdone ?hstop
  case hassign =>
    intro l1 pre x W K hI hK
    have HK := Aside0.mk hK
    have HI := Aside0.mk hI
    clear hK hI hseq
    unfold winV
    gi_wp2
    refine HK.out _ _ (keeps_below (below_alloc (Below.refl _ W) _)) (Stay.of_below (below_alloc (Below.refl _ W) _) (fun k hk => Nat.lt_of_lt_of_le (HQ.out k hk) HI.out.1.2)) ⟨⟨HI.out.1.1, Nat.le_trans HI.out.1.2 (by simp)⟩, HI.out.2.step (below_alloc (Below.refl _ W) _)⟩ ⟨W.heap.size, rfl, blk_new W _⟩
  case hbody =>
    rintro l1 pre x a' W hl1 hr1 ⟨⟨hp, hz⟩, hs⟩ ⟨bv, rfl, hbv⟩ hlt
    have HS := Aside0.mk hs
    have HP := Aside0.mk hp
    have HZ := Aside0.mk hz
    have HV := Aside0.mk hbv
    have hx : (x : Nat) ≤ hN l := by have := x.isLt; omega
    have hwl : wF s x + pw x ≤ l.length := by
      have := HC.out.1.len
      rw [this] at h2 ⊢
      exact wF_le h2 hx
    have CC := Aside0.mk (count_any HG.out (by omega) hwl (x : Nat) (w := W.drew) (Kd.C_below (Kd.C_below HR.out HS.out.below) (below_drew (Below.refl _ W))) HLC.out)
    have CW := Aside0.mk (fun w => within_nat HG.out HC.out.1 (f := wF s x) (n := pw x) hx w)
    have EO : Aside0 ((withN (sumW l (wF s x) (pw x)) (x : Nat) (hN l) == 0) = okW l s x) := ⟨rfl⟩
    have c0 : (_ : Option Value) = some (.slice A l.length c) := (blk_cell (HS.out.blk 0 rfl) 0).trans rfl
    have c1 : (_ : Option Value) = some (.int .i64 (hN l)) := (blk_cell (HS.out.blk 2 rfl) 0).trans rfl
    have d0 : (_ : Option Value) = some (.int .i64 (x : Nat)) := (blk_cell hbv 0).trans rfl
    have d1 : (_ : Option Value) = some (.int .i64 (wF s x : Nat)) := (blk_cell hbv 1).trans rfl
    have d2 : (_ : Option Value) = some (.int .i64 (pw x : Nat)) := (blk_cell hbv 2).trans rfl
    clear hp hz hs hbv hseq hwl
    unfold FR
    generalize sumW l (wF s x) (pw x) = sm at *
    generalize withN sm (x : Nat) (hN l) = wn at *
    gi_wp2_with fail
    gi_cut [14, 15] from 46 (fun v14 v15 W' => v14 = .int .i64 wn ∧ v15 = .int .i64 0 ∧ Aside0 (Below W.heap.size W W'))
    case first =>
      gi_region_with (first
        | (refine ⟨trivial, ?_⟩; gi_at_call 76; refine ((callsIn_wide.2 CC.out).inRound l1).mono ?_; rintro e w7 ⟨rfl, hb⟩; have y0 := pw_cell_below hb d0; have y1 := pw_cell_below hb c1; have HB := Aside0.mk hb; clear hb)
        | (refine ⟨trivial, ?_⟩; gi_at_call 28; refine ((callsIn_wide.2 (CW.out _)).inRound l1).mono ?_; rintro e w8 ⟨rfl, hd⟩; have HD := Aside0.mk hd; clear hd))
      all_goals
        gi_wp2
        gi_meet
        case rel => exact ⟨rfl, rfl, ⟨below_step (below_step (below_drew (Below.refl _ W)) HB.out) HD.out.below⟩⟩
    case rest =>
      obtain ⟨rfl, rfl, HB8⟩ := hcut
      have HS8 := Aside0.mk (HS.out.step HB8.out)
      have HV8 := Aside0.mk (blk_below HV.out HB8.out)
      clear c0 c1 d0 d1 d2 CC CW HS HV
      generalize wc = w8 at *
      by_cases h0 : wn = 0
      · have q : (wn == 0) = true := by rw [h0]; rfl
        rw [q] at EO
        clear h0
        have d0 : (_ : Option Value) = some (.int .i64 (x : Nat)) := (blk_cell HV8.out 0).trans rfl
        have d1 : (_ : Option Value) = some (.int .i64 (wF s x : Nat)) := (blk_cell HV8.out 1).trans rfl
        have d2 : (_ : Option Value) = some (.int .i64 (pw x : Nat)) := (blk_cell HV8.out 2).trans rfl
        have d3 : (_ : Option Value) = some (.int .i64 0) := (blk_cell (HS8.out.blk 3 rfl) 0).trans rfl
        have d4 : (_ : Option Value) = some (.int .i64 0) := (blk_cell (HS8.out.blk 3 rfl) 1).trans rfl
        have d5 : (_ : Option Value) = some (.int .i64 0) := (blk_cell (HS8.out.blk 3 rfl) 2).trans rfl
        have d6 : (_ : Option Value) = some (.bool false) := (blk_cell (HS8.out.blk 4 rfl) 0).trans rfl
        have f3 := blk_frozen (HS8.out.blk 3 rfl) 0
        have f4 := blk_frozen (HS8.out.blk 3 rfl) 1
        have f5 := blk_frozen (HS8.out.blk 3 rfl) 2
        have f6 := blk_frozen (HS8.out.blk 4 rfl) 0
        gi_wp2
        have HS9 := (((HS8.out.turn_blk 3 rfl 0 (.int .i64 (x : Nat))).turn_blk 3 rfl 1 (.int .i64 (wF s x : Nat))).turn_blk 3 rfl 2 (.int .i64 (pw x : Nat))).turn_blk 4 rfl 0 (.bool true)
        have HO := (((((Only.of_below (S := fun k => k = b2 + 1 ∨ k = b2 + 1 + 1) HB8.out).trans (Only.set _ w8 (p := ⟨b2 + 1, 0, none⟩) (.inl rfl) (.int .i64 (x : Nat)))).trans (Only.set _ _ (p := ⟨b2 + 1, 1, none⟩) (.inl rfl) (.int .i64 (wF s x : Nat)))).trans (Only.set _ _ (p := ⟨b2 + 1, 2, none⟩) (.inl rfl) (.int .i64 (pw x : Nat)))).trans (Only.set _ _ (p := ⟨b2 + 1 + 1, 0, none⟩) (.inr rfl) (.bool true)))
        exact ⟨keeps_only HO (fun k hk => by
          rcases hk with rfl | rfl
          · exact HF.out win0 false _ (List.mem_of_getElem? (i := 3) rfl) _ (by simp [Blk])
          · exact HF.out win0 false _ (List.mem_of_getElem? (i := 4) rfl) _ (by simp [Blk])), rfl, pre, x, rfl, HP.out, EO.out.symm, HS9⟩
      · have q : (wn == 0) = false := by rw [beq_eq_false_iff_ne]; exact h0
        rw [q] at EO
        clear h0
        gi_wp2
        exact ⟨keeps_below HB8.out, Stay.of_below HB8.out (fun k hk => Nat.lt_of_lt_of_le (HQ.out k hk) HZ.out), ⟨fun y hy => by
          rcases List.mem_append.1 hy with hy | hy
          · exact HP.out y hy
          · rw [List.mem_singleton.1 hy]; exact EO.out.symm, Nat.le_trans HZ.out HB8.out.size⟩, HS8.out⟩
  case hdone =>
    rintro D ys W hD rfl ⟨⟨hp, hz⟩, hs⟩ hK
    have HN := Aside0.mk (lvl_none (l := l) (s := s) fun j hj => hp ⟨j, by omega⟩ (List.mem_finRange _))
    have HS := Aside0.mk (sep_def hs (HF.out _ _) hD HS.out.below.size hK)
    clear hp hz hs hK hD hseq
    have c0 : (_ : Option Value) = some (.int .i64 (hN l)) := (blk_cell (HS.out.blk 2 rfl) 0).trans rfl
    have d0 : (_ : Option Value) = some (.bool false) := (blk_cell (HS.out.blk 4 rfl) 0).trans rfl
    have e0 : (_ : Option Value) = some (.int .i64 0) := (blk_cell (HS.out.blk 3 rfl) 0).trans rfl
    have e1 : (_ : Option Value) = some (.int .i64 0) := (blk_cell (HS.out.blk 3 rfl) 1).trans rfl
    have e2 : (_ : Option Value) = some (.int .i64 0) := (blk_cell (HS.out.blk 3 rfl) 2).trans rfl
    have g0 : (_ : Option Value) = some (.int .i64 0) := (blk_cell (HS.out.blk 1 rfl) 0).trans rfl
    have g1 : (_ : Option Value) = some (.int .i64 0) := (blk_cell (HS.out.blk 1 rfl) 1).trans rfl
    have g2 : (_ : Option Value) = some (.int .i64 0) := (blk_cell (HS.out.blk 1 rfl) 2).trans rfl
    have f0 := blk_frozen (HS.out.blk 1 rfl) 0
    have f1 := blk_frozen (HS.out.blk 1 rfl) 1
    have f2 := blk_frozen (HS.out.blk 1 rfl) 2
    have hne := ap_ne HS.out.ap (i := 1) (j := 2) rfl rfl (by decide) (w.heap.size + 1) (by simp [Blk])
    have n1 : ¬ w.heap.size + 1 = b2 := fun e => hne (by rw [e]; simp [Blk])
    have hne := ap_ne HS.out.ap (i := 1) (j := 3) rfl rfl (by decide) (w.heap.size + 1) (by simp [Blk])
    have n2 : ¬ w.heap.size + 1 = b2 + 1 := fun e => hne (by rw [e]; simp [Blk])
    have hne := ap_ne HS.out.ap (i := 1) (j := 4) rfl rfl (by decide) (w.heap.size + 1) (by simp [Blk])
    have n3 : ¬ w.heap.size + 1 = b2 + 1 + 1 := fun e => hne (by rw [e]; simp [Blk])
    have m1 : ¬ b2 = w.heap.size + 1 := fun e => n1 e.symm
    have m2 : ¬ b2 + 1 = w.heap.size + 1 := fun e => n2 e.symm
    have m3 : ¬ b2 + 1 + 1 = w.heap.size + 1 := fun e => n3 e.symm
    clear hne
    go_wp2
    go_region
    all_goals
      go_wp2
      (try rw [Exit.noGoto_ret])
      (try simp only [Exit.inBlock, Exit.then])
      replace HS := Aside0.mk ((((HS.out.turn_blk 1 rfl 0 (.int .i64 0)).turn_blk 1 rfl 1 (.int .i64 0)).turn_blk 1 rfl 2 (.int .i64 0)).step (below_drew (Below.refl _ _)))
      have HS2 := sep_shut HS.out 7 rfl
      refine leave1 (HS.out.get 7 rfl) (results_cttt (p := 4) (ty := 61) rfl _ _ (w.heap.size + 1) 61 _ (0, 0) _ rfl (HS2.blk 1 rfl) Tryd.underlying61 rfl size_win) ⟨?_, HS2.below⟩
      unfold fndV
      rw [HN.out]
      rfl
  case hstop =>
    rintro D c1 pre W hD hpre ⟨rfl, pre', x, hpx, hp1, hp2, hs⟩ hK
    have HN : Aside0 (lvl l s = some (x : Nat)) := ⟨by
      obtain ⟨k, hk, e⟩ := hpre
      rw [e] at hpx
      obtain ⟨m, hm⟩ : ∃ m, pre'.length = m := ⟨_, rfl⟩
      have hkl : k = m + 1 := by
        have := congrArg List.length hpx
        simp at this
        omega
      subst hkl
      rw [fin_take (by omega)] at hpx
      have h1 := List.append_inj hpx (by simp; omega)
      have hxv : (x : Nat) = m := by
        have := h1.2
        simp only [List.cons.injEq, and_true] at this
        rw [← this]
      refine lvl_some (by have := x.isLt; omega) hp2 fun j hj => ?_
      refine hp1 ⟨j, by have := x.isLt; omega⟩ ?_
      rw [← h1.1, List.mem_take_iff_getElem]
      exact ⟨j, by simp; omega, by simp⟩⟩
    have HS := Aside0.mk (sep_def hs (HF.out _ _) hD HS.out.below.size hK)
    clear hpx hp1 hp2 hs hK hD hseq hpre
    apply wpIn_wide.2
    have c0 : (_ : Option Value) = some (.int .i64 (hN l)) := (blk_cell (HS.out.blk 2 rfl) 0).trans rfl
    have d0 : (_ : Option Value) = some (.bool true) := (blk_cell (HS.out.blk 4 rfl) 0).trans rfl
    have e0 : (_ : Option Value) = some (.int .i64 (x : Nat)) := (blk_cell (HS.out.blk 3 rfl) 0).trans rfl
    have e1 : (_ : Option Value) = some (.int .i64 (wF s x : Nat)) := (blk_cell (HS.out.blk 3 rfl) 1).trans rfl
    have e2 : (_ : Option Value) = some (.int .i64 (pw x : Nat)) := (blk_cell (HS.out.blk 3 rfl) 2).trans rfl
    have g0 : (_ : Option Value) = some (.int .i64 0) := (blk_cell (HS.out.blk 1 rfl) 0).trans rfl
    have g1 : (_ : Option Value) = some (.int .i64 0) := (blk_cell (HS.out.blk 1 rfl) 1).trans rfl
    have g2 : (_ : Option Value) = some (.int .i64 0) := (blk_cell (HS.out.blk 1 rfl) 2).trans rfl
    have f0 := blk_frozen (HS.out.blk 1 rfl) 0
    have f1 := blk_frozen (HS.out.blk 1 rfl) 1
    have f2 := blk_frozen (HS.out.blk 1 rfl) 2
    have hne := ap_ne HS.out.ap (i := 1) (j := 2) rfl rfl (by decide) (w.heap.size + 1) (by simp [Blk])
    have n1 : ¬ w.heap.size + 1 = b2 := fun e => hne (by rw [e]; simp [Blk])
    have hne := ap_ne HS.out.ap (i := 1) (j := 3) rfl rfl (by decide) (w.heap.size + 1) (by simp [Blk])
    have n2 : ¬ w.heap.size + 1 = b2 + 1 := fun e => hne (by rw [e]; simp [Blk])
    have hne := ap_ne HS.out.ap (i := 1) (j := 4) rfl rfl (by decide) (w.heap.size + 1) (by simp [Blk])
    have n3 : ¬ w.heap.size + 1 = b2 + 1 + 1 := fun e => hne (by rw [e]; simp [Blk])
    have m1 : ¬ b2 = w.heap.size + 1 := fun e => n1 e.symm
    have m2 : ¬ b2 + 1 = w.heap.size + 1 := fun e => n2 e.symm
    have m3 : ¬ b2 + 1 + 1 = w.heap.size + 1 := fun e => n3 e.symm
    clear hne
    go_wp2
    go_region
    all_goals
      go_wp2
      (try rw [Exit.noGoto_ret])
      (try simp only [Exit.inBlock, Exit.then])
      replace HS := Aside0.mk ((((HS.out.turn_blk 1 rfl 0 (.int .i64 (x : Nat))).turn_blk 1 rfl 1 (.int .i64 (wF s x : Nat))).turn_blk 1 rfl 2 (.int .i64 (pw x : Nat))).step (below_drew (Below.refl _ _)))
      have HS2 := sep_shut HS.out 7 rfl
      refine leave1 (HS.out.get 7 rfl) (results_cttt (p := 4) (ty := 61) rfl _ _ (w.heap.size + 1) 61 _ (0, 0) _ rfl (HS2.blk 1 rfl) Tryd.underlying61 rfl size_win) ⟨?_, HS2.below⟩
      unfold fndV
      rw [HN.out]
      rfl
end Go.Proofs.YtlaegahdignphaaDoor.M5
