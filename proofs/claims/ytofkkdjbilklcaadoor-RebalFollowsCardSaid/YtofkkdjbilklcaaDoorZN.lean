/- The document's moves (punnetref07): walked. -/
import Derived.Test.YtofkkdjbilklcaaDoorZB
namespace Go.Proofs.YtofkkdjbilklcaaDoor.ZN
open Go.RowKit Go.Shelf Go.Proofs.YtofkkdjbilklcaaDoorW.PrintWords Go.Proofs.YtofkkdjbilklcaaDoorW.PrintLast Go.Proofs.YtofkkdjbilklcaaDoorW.PrintMore G1 G0 Q1 G2 G3 G4 G5 G6 G7 G8 G9 G10 S1 Y1 Y3 Y2 Z0 Z1 Z2 Z3 Z4 ZR ZM ZP
set_option linter.unusedVariables false
set_option linter.unusedSimpArgs false
theorem results_mv {fn : Func} {W : World} {tmps : Array Value} {b : Nat} {x y z : Int} (h : fn.results = #[.cell 6 31]) (ht : tmps.getD 6 undef = .pointer (some ⟨b, 0, none⟩)) (c0 : W.cell? ⟨b, 0, none⟩ = some (.int .i64 x)) (c1 : W.cell? ⟨b, 1, none⟩ = some (.int .i64 y)) (c2 : W.cell? ⟨b, 2, none⟩ = some (.int .i64 z)) : (results fn tmps).run Tryd.prog W = .ok (.agg #[.int .i64 x, .int .i64 y, .int .i64 z]) W := by
  have ht' : tmps[6]?.getD undef = .pointer (some ⟨b, 0, none⟩) := by simpa using ht
  have ha : (isAgg 31).run Tryd.prog W = .ok true W := by simp [isAgg, go_sem, Tryd.underlying31]
  have hs : (sizeOf 31).run Tryd.prog W = .ok 3 W := by kernel_rfl
  simp [results, h, ht', asAddr, loadVar, loadCells, loadCellsFrom, go_sem, ha, hs, c0, c1, c2, Addr.add]
section
variable {w0 w : World} {r lb n : Nat} {g : Gap} {L : List Ob}
set_option maxRecDepth 100000 in
theorem one_any (h : RefAt w r lb n g) {i j : Nat} (hi : i < n) : Calls Tryd.prog 71 #[.pointer (some ⟨r, 0, none⟩), .int .i64 (i : Int), .int .i64 (j : Int)] w fun e w' => e = .returned (.agg #[.int .i64 (g.xs.getD i 0), .int .i64 (i : Int), .int .i64 (j : Int)]) ∧ RefAt w' r lb n (moveS n g (i : Int) (j : Int)) ∧ Only (· = lb) w w' := by
  have HB := Aside0.mk (below_alloc (Below.refl w.heap.size w) (.cells #[.int .i64 0, .int .i64 0, .int .i64 0] 31))
  have H1 := h.below HB.out
  have c0 := H1.c0
  obtain ⟨s0, s1⟩ := H1.cells hi
  have hn := h.high
  generalize g.xs.getD i 0 = x at *
  have HB2 := Aside0.mk (below_step HB.out (below_alloc (Below.refl _ _) (.cells #[.int .i64 x, .int .i64 (i : Int), .int .i64 (j : Int)] 31)))
  have C := Aside0.mk (rmove_any (h.below HB2.out) (i : Int) (j : Int))
  have hlb := blk_lt h.hl
  have HP0 := Aside0.mk h
  have k0 := blk_alloc (blk_new w (.cells #[.int .i64 0, .int .i64 0, .int .i64 0] 31)) (.cells #[.int .i64 x, .int .i64 (i : Int), .int .i64 (j : Int)] 31)
  have k1 := blk_new (w.alloc (.cells #[.int .i64 0, .int .i64 0, .int .i64 0] 31)) (.cells #[.int .i64 x, .int .i64 (i : Int), .int .i64 (j : Int)] 31)
  rw [World.size_alloc] at k1
  have K := Aside0.mk (And.intro k0 (And.intro k1 hlb))
  clear H1 h s0 k0 k1 hlb
  go_enter Tryd.func71, Tryd.ntmps71
  go_wp2_with fail
  refine C.out.mono ?_
  clear C
  rintro e w1 ⟨rfl, h4, h5⟩
  have HP := Aside0.mk (And.intro h4 h5)
  have K0 := Aside0.mk (h5.blk K.out.1 (by have := K.out.2.2; omega))
  have K1 := Aside0.mk (h5.blk K.out.2.1 (by have := K.out.2.2; omega))
  clear h4 h5 c0 s1
  have d0 : (_ : Option Value) = some (.int .i64 x) := (blk_cell K1.out 0).trans rfl
  have d1 : (_ : Option Value) = some (.int .i64 (i : Int)) := (blk_cell K1.out 1).trans rfl
  have d2 : (_ : Option Value) = some (.int .i64 (j : Int)) := (blk_cell K1.out 2).trans rfl
  have f0 := blk_frozen K0.out 0
  have f1 := blk_frozen K0.out 1
  have f2 := blk_frozen K0.out 2
  have b0 : (_ : Option Value) = some (.int .i64 0) := (blk_cell K0.out 0).trans rfl
  have b1 : (_ : Option Value) = some (.int .i64 0) := (blk_cell K0.out 1).trans rfl
  have b2 : (_ : Option Value) = some (.int .i64 0) := (blk_cell K0.out 2).trans rfl
  go_wp2
  have K2 := blk_set (blk_set (blk_set K0.out 0 (.int .i64 x)) 1 (.int .i64 (i : Int))) 2 (.int .i64 (j : Int))
  refine bodyPost_ret (results_mv rfl rfl ((blk_cell K2 0).trans rfl) ((blk_cell K2 1).trans rfl) ((blk_cell K2 2).trans rfl)) rfl ?_
  have hne : r ≠ w.heap.size := by have := blk_lt HP0.out.hr; omega
  have hnl : lb ≠ w.heap.size := by have := K.out.2.2; omega
  have O := ((Only.set (fun k => k = w.heap.size) w1 (p := ⟨w.heap.size, 0, none⟩) rfl (.int .i64 x)).trans (Only.set (fun k => k = w.heap.size) _ (p := ⟨w.heap.size, 1, none⟩) rfl (.int .i64 (i : Int)))).trans (Only.set (fun k => k = w.heap.size) _ (p := ⟨w.heap.size, 2, none⟩) rfl (.int .i64 (j : Int)))
  refine ⟨rfl, HP.out.1.stay (fun k hk => O.block k ?_ ?_), ?_⟩
  · simp only [List.mem_cons, List.not_mem_nil, or_false] at hk
    rcases hk with rfl | rfl
    · exact blk_lt HP.out.1.hr
    · exact blk_lt HP.out.1.hl
  · simp only [List.mem_cons, List.not_mem_nil, or_false] at hk
    rcases hk with rfl | rfl
    · exact hne
    · exact hnl
  · exact ((Only.of_below HB2.out).then_ HP.out.2 (fun _ h => .inl h)).then_ O (fun k hk => .inr (by rw [hk]; exact Nat.le_refl _))
set_option maxRecDepth 100000 in
set_option maxHeartbeats 2000000 in
theorem rleft_any (hS : Sep w0 w (RefO r lb n g :: L)) (hl : g.xs.length = n) {f k : Nat} (hk : 8 * f + 8 * k ≤ n) (hf : f + k ≤ 512) :
    Calls Tryd.prog 26 #[.pointer (some ⟨r, 0, none⟩), .int .i64 (f : Int), .int .i64 (k : Int)] w fun e w' => ∃ v, e = .returned v ∧ Sep w0 w' (RefO r lb n (leftR n f k g).g :: OwnM v (leftR n f k g).ms :: L) := by
  have HL := Aside0.mk hl
  obtain ⟨b, hb⟩ : ∃ b, 8 * f = b := ⟨_, rfl⟩
  obtain ⟨N, hN⟩ : ∃ N, 8 * k = N := ⟨_, rfl⟩
  have HLR : Aside0 (leftR n f k g = ⟨(packP n b g N).g, (packP n b g N).ms⟩) := ⟨by unfold leftR; rw [hb, hN]⟩
  have HS : Aside0 (Sep w0 w (RefO r lb n (packP n b g 0).g :: OwnM (.slice none 0 0) (packP n b g 0).ms :: L)) := ⟨by
    have h := hS.push (Below.refl _ w) (OwnM (.slice none 0 0) []) (World.ownsRow_nil _ _ _ _) (fun k hk => by simp [OwnM, Value.ownBlock] at hk)
    exact h.perm (List.Perm.cons _ List.perm_append_comm)⟩
  have eb : 8 * (f : Int) = (b : Int) := by omega
  have eN : 8 * ((f : Int) + (k : Int)) = (b : Int) + (N : Int) := by omega
  have hbN : b + N ≤ 4096 := by omega
  have hkn : b + N ≤ n := by omega
  have HI := Aside0.mk (fun j (h : b + j ≤ n) => pack_inv (b := b) (g := g) hl j h)
  have hf5 : (f : Int) ≤ 512 := by omega
  have hk5 : (k : Int) ≤ 512 := by omega
  clear hS hl hb hN hk hf
  go_enter Tryd.func26, Tryd.ntmps26
  go_wp2
  go_loopg [7, 8, 9] (N + 1) (fun kq v7 v8 v9 W => ∃ j : Nat, v8 = .int .i64 ((b + (packP n b g j).c : Nat) : Int) ∧ v9 = .int .i64 ((b + j : Nat) : Int) ∧ j ≤ N ∧ Aside0 (N + 1 - j ≤ kq) ∧ Aside0 (Sep w0 W (RefO r lb n (packP n b g j).g :: OwnM v7 (packP n b g j).ms :: L)))
  case atStart => exact ⟨0, rfl, rfl, by omega, ⟨by omega⟩, HS⟩
  case round =>
    clear HS
    obtain ⟨j, rfl, rfl, hj, HQ, HS⟩ := hrel
    by_cases hlt : j < N
    · have inv := HI.out j (by omega)
      have hcj := inv.le
      have HFEW := Aside0.mk (show (packP n b g j).ms.length ≤ 10000 by have := inv.few; omega)
      have href : RefAt wr r lb n (packP n b g j).g := HS.out.get 0 rfl
      have c0 := href.c0
      have hn6 := href.high
      obtain ⟨s0, s1⟩ := href.cells (show b + j < n by omega)
      obtain ⟨i, hi⟩ : ∃ i, b + j = i := ⟨_, rfl⟩
      obtain ⟨tz, hto⟩ : ∃ tz, b + (packP n b g j).c = tz := ⟨_, rfl⟩
      have hst : packP n b g (j + 1) = if (packP n b g j).g.on i then (if (packP n b g j).c = j then ⟨(packP n b g j).g, (packP n b g j).c + 1, (packP n b g j).ms⟩ else ⟨moveS n (packP n b g j).g (i : Int) (tz : Int), (packP n b g j).c + 1, (packP n b g j).ms ++ [⟨(packP n b g j).g.xs.getD i 0, (i : Int), (tz : Int)⟩]⟩) else packP n b g j := by
        rw [← hi, ← hto]; rfl
      have C1 := Aside0.mk (fun (W : World) (h : RefAt W r lb n (packP n b g j).g) => one_any h (i := i) (j := tz) (by omega))
      rw [hi] at s0 s1 ⊢
      rw [hto]
      have e1 : ((b + (j + 1) : Nat) : Int) = (i : Int) + 1 := by omega
      have hi1 : (i : Int) < (b : Int) + (N : Int) := by omega
      have hi2 : (i : Int) ≤ 4096 := by omega
      have hto2 : (tz : Int) ≤ 4096 := by omega
      have hin : i < n := by omega
      have HE1 := Aside0.mk e1
      have HTO := Aside0.mk hto
      have HJ := Aside0.mk hlt
      cases hon : (packP n b g j).g.on i with
      | false =>
        rw [hon] at s0
        rw [hon, if_neg Bool.false_ne_true] at hst
        have HST := Aside0.mk hst
        clear hst inv href hi hto e1 hlt hcj hon
        go_wp2
        go_roundg (N - j)
        case measure => have := HQ.out; have := HJ.out; omega
        case rel => exact ⟨j + 1, by rw [HST.out, HTO.out], by rw [HE1.out], by have := HJ.out; omega, ⟨by omega⟩, ⟨by rw [HST.out]; exact HS.out⟩⟩
      | true =>
        rw [hon] at s0
        rw [hon, if_pos rfl] at hst
        by_cases hc : (packP n b g j).c = j
        · rw [if_pos hc] at hst
          have HST := Aside0.mk hst
          obtain rfl : tz = i := by omega
          clear hst inv href hi hto e1 hlt hcj hon hc
          go_wp2
          go_roundg (N - j)
          case measure => have := HQ.out; have := HJ.out; omega
          case rel => exact ⟨j + 1, by rw [HST.out]; congr 1; have := HTO.out; dsimp only; omega, by rw [HE1.out], by have := HJ.out; omega, ⟨by omega⟩, ⟨by rw [HST.out]; exact HS.out⟩⟩
        · rw [if_neg hc] at hst
          have HST := Aside0.mk hst
          have q : ((i : Int) == (tz : Int)) = false := beq_eq_false_iff_ne.2 (by omega)
          obtain ⟨A7, c7, e7⟩ := ownM_shape (HS.out.get 1 rfl)
          obtain ⟨n7, hn7⟩ : ∃ n7, (packP n b g j).ms.length = n7 := ⟨_, rfl⟩
          rw [hn7] at e7
          subst e7
          clear hst href hi hto e1 hlt hcj hon hc inv hn7
          generalize packP n b g j = r0 at *
          generalize r0.g.xs.getD i 0 = x at *
          go_wp2_with fail
          refine (C1.out _ (HS.out.get 0 rfl)).mono ?_
          clear C1 s0 s1 c0
          rintro e w5 ⟨rfl, h4, h5⟩
          replace HS := Aside0.mk (ref_turn HS.out 0 rfl h5 h4)
          clear h4 h5
          go_wp2_with ((with_reducible refine gate_builtin (b := .append) (xs := #[.tmp 33, .tmp 38]) rfl ?_); at_builtin; refine sep_appendM rfl (.tmp 33) (.tmp 38) rfl HS.out 1 rfl ⟨x, (i : Int), (tz : Int)⟩ rfl rfl (by have := HFEW.out; omega) ?_; intro v1 w6 hs2; have HS2 := Aside0.mk hs2; clear hs2)
          go_roundg (N - j)
          case measure => have := HQ.out; have := HJ.out; omega
          case rel => exact ⟨j + 1, by rw [HST.out]; congr 1; have := HTO.out; dsimp only; omega, by rw [HE1.out], by have := HJ.out; omega, ⟨by omega⟩, ⟨by rw [HST.out]; exact HS2.out⟩⟩
    · obtain rfl : j = N := by omega
      obtain ⟨A7, c7, e7⟩ := ownM_shape (HS.out.get 1 rfl)
      subst e7
      go_wp2
      go_ret
      exact ⟨_, rfl, by rw [HLR.out]; exact HS.out⟩
theorem rplaces_any {c k f : Nat} (h1 : 1 ≤ k) (h2 : k ≤ 512) (h3 : c ≤ 8 * k) (hf : f ≤ 512) (w : World) : Calls Tryd.prog 73 #[.int .i64 (c : Int), .int .i64 (f : Int), .int .i64 (k : Int)] w fun e w' => ∃ v, e = .returned v ∧ Sep w w' [S1.Own v (plK c k f k)] := by
  obtain ⟨q, hq⟩ := pl_ev (n := c) (s := k) (f := f) h1 h2 h3 hf
  refine (punnetref04_Places.calls q c f k (plK c k f k) w (hq q (Nat.le_refl _))).mono ?_
  rintro e w' ⟨v, rfl, hR, hb⟩
  exact ⟨v, rfl, (Sep.nil w).new_own hb (Kd.own_of_R hR)⟩
set_option maxRecDepth 100000 in
set_option maxHeartbeats 4000000 in
theorem reven_any (hS : Sep w0 w (RefO r lb n g :: L)) (hl : g.xs.length = n) {f k : Nat} (hk : 8 * f + 8 * k ≤ n) (hf : f + k ≤ 512) (h1 : 1 ≤ k) :
    Calls Tryd.prog 27 #[.pointer (some ⟨r, 0, none⟩), .int .i64 (f : Int), .int .i64 (k : Int)] w fun e w' => ∃ v, e = .returned v ∧ Sep w0 w' (RefO r lb n (evenR n f k g).g :: OwnM v (evenR n f k g).ms :: L) := by
  have HL := Aside0.mk hl
  have CL := rleft_any hS hl hk hf
  unfold leftR at CL
  dsimp only at CL
  have hinv := pack_inv (b := 8 * f) hl (8 * k) hk
  have hc := hinv.le
  have hfew := hinv.few
  have HEV := Aside0.mk (ev_start (qs := plK (packP n (8 * f) g (8 * k)).c k f k) (pack_win hinv hl))
  have HPL := Aside0.mk (plc_of (n := n) (f := f) h1 hc hk)
  have HPK : Aside0 ((∀ t, t < (packP n (8 * f) g (8 * k)).c → (packP n (8 * f) g (8 * k)).g.on (8 * f + t) = true) ∧ ∀ t, (packP n (8 * f) g (8 * k)).c ≤ t → t < 8 * k → (packP n (8 * f) g (8 * k)).g.on (8 * f + t) = false) := ⟨hinv.packed, hinv.free⟩
  clear hinv
  generalize hr : packP n (8 * f) g (8 * k) = q0 at *
  have HR := Aside0.mk hr
  clear hr
  obtain ⟨rg, c, ms⟩ := q0
  dsimp only at CL HEV HPL hc hfew HR HPK
  have CL := Aside0.mk CL
  have CS := Aside0.mk (fun W => rplaces_any (c := c) (f := f) h1 (by omega) hc (by omega) W)
  obtain ⟨b, hb⟩ : ∃ b, 8 * f = b := ⟨_, rfl⟩
  obtain ⟨N, hN⟩ : ∃ N, 8 * k = N := ⟨_, rfl⟩
  have eb : 8 * (f : Int) = (b : Int) := by omega
  have eN : 8 * ((f : Int) + (k : Int)) = (b : Int) + (N : Int) := by omega
  have hbN : b + N ≤ 4096 := by omega
  have hkn : b + N ≤ n := by omega
  have HER : Aside0 (evenR n f k g = evenP n b c (plK c k f k) ⟨rg, ms⟩ c) := ⟨by
    unfold evenR
    rw [HR.out, hb]⟩
  rw [hb] at HEV HPL HR HPK
  rw [hN] at HEV HPL HPK
  have hc3 : c ≤ N := by omega
  have hf5 : (f : Int) ≤ 512 := by omega
  have hk5 : (k : Int) ≤ 512 := by omega
  have HFW := Aside0.mk hfew
  clear hS hl hb hN hk hf hc hfew h1
  go_enter Tryd.func27, Tryd.ntmps27
  go_wp2_with fail
  refine CL.out.mono ?_
  clear CL
  rintro e w1 ⟨v1, rfl, hs1⟩
  obtain ⟨A1, c1, e1⟩ := ownM_shape (hs1.get 1 rfl)
  obtain ⟨n1, hn1⟩ : ∃ n1, ms.length = n1 := ⟨_, rfl⟩
  rw [hn1] at e1
  subst e1
  clear hn1
  have HS := Aside0.mk hs1
  clear hs1
  go_wp2
  go_loopg [8] (c + 1) (fun kq v8 W => ∃ j : Nat, v8 = .int .i64 (j : Int) ∧ j ≤ c ∧ Aside0 (c + 1 - j ≤ kq) ∧ w1 = W)
  case atStart => exact ⟨0, rfl, by omega, ⟨by omega⟩, rfl⟩
  case round =>
    obtain ⟨j, rfl, hj, HQ, rfl⟩ := hrel
    have href : RefAt w1 r lb n rg := HS.out.get 0 rfl
    have c0 := href.c0
    have hn6 := href.high
    by_cases hlt : j < c
    · obtain ⟨s0, s1⟩ := href.cells (show b + j < n by omega)
      rw [HPK.out.1 j hlt] at s0
      have e2 : (b : Int) + (j : Int) = ((b + j : Nat) : Int) := by omega
      have e3 : ((b + j : Nat) : Int) < (b : Int) + (N : Int) := by omega
      have e4 : b + j < n := by omega
      have e5 : b + j ≤ 4096 := by omega
      have HC := Aside0.mk hlt
      obtain ⟨i, hi⟩ : ∃ i, b + j = i := ⟨_, rfl⟩
      rw [hi] at s0 e2 e3 e4 e5
      clear href hi s1 hlt
      go_wp2
      go_roundg (c - j)
      case measure => have := HQ.out; have := HC.out; omega
      case rel => exact ⟨j + 1, by go_num, by have := HC.out; omega, ⟨by omega⟩, rfl⟩
    · obtain rfl : j = c := by omega
      by_cases hlt2 : j < N
      · obtain ⟨s0, s1⟩ := href.cells (show b + j < n by omega)
        rw [HPK.out.2 j (Nat.le_refl _) hlt2] at s0
        have e2 : (b : Int) + (j : Int) = ((b + j : Nat) : Int) := by omega
        have e3 : ((b + j : Nat) : Int) < (b : Int) + (N : Int) := by omega
        have e4 : b + j < n := by omega
        have e5 : b + j ≤ 4096 := by omega
        obtain ⟨i, hi⟩ : ∃ i, b + j = i := ⟨_, rfl⟩
        rw [hi] at s0 e2 e3 e4 e5
        have e2' := e2
        clear href hi s1 hlt hlt2
        go_wp2_with fail
        clear e2 e3 e4 e5 e2' s0 c0
        refine (CS.out _).mono ?_
        clear CS
        rintro e w2 ⟨v2, rfl, hs2⟩
        obtain ⟨A2, c2, rfl, _, _⟩ := G9.own_C (hs2.own 0 rfl)
        rw [HPL.out.len] at hs2 ⊢
        have HS3 : Aside0 (Sep w0 w2 (RefO r lb n rg :: OwnM (.slice A1 n1 c1) ms :: (L ++ [S1.Own (.slice A2 j c2) (plK j k f k)]))) := ⟨HS.out.append hs2⟩
        clear HS hs2
        generalize plK j k f k = ps at *
        go_wp2
        go_loopg [7, 10] (j + 1) (fun kq v7 v10 W => ∃ d : Nat, v10 = .int .i64 ((j : Int) - 1 - (d : Int)) ∧ d ≤ j ∧ Aside0 (j + 1 - d ≤ kq) ∧ Aside0 (Sep w0 W (RefO r lb n (evenP n b j ps ⟨rg, ms⟩ d).g :: OwnM v7 (evenP n b j ps ⟨rg, ms⟩ d).ms :: (L ++ [S1.Own (.slice A2 j c2) ps]))))
        case atStart => exact ⟨0, by go_num, by omega, ⟨by omega⟩, HS3⟩
        case round =>
          clear HS3
          obtain ⟨d, rfl, hd, HQ2, HS⟩ := hrel
          by_cases hlt : d < j
          · obtain ⟨iN, hiN⟩ : ∃ iN, j - 1 - d = iN := ⟨_, rfl⟩
            have ei : (j : Int) - 1 - (d : Int) = (iN : Int) := by omega
            rw [ei]
            have inv := even_inv (r0 := ⟨rg, ms⟩) HPL.out HEV.out d hd
            obtain ⟨q, hq, hq1, hq2⟩ := HPL.out.nat (show iN < j by omega)
            have hst : evenP n b j ps ⟨rg, ms⟩ (d + 1) = (if ((b + iN : Nat) : Int) = (q : Int) then evenP n b j ps ⟨rg, ms⟩ d else ⟨moveS n (evenP n b j ps ⟨rg, ms⟩ d).g ((b + iN : Nat) : Int) (q : Int), (evenP n b j ps ⟨rg, ms⟩ d).ms ++ [⟨(evenP n b j ps ⟨rg, ms⟩ d).g.xs.getD (b + iN) 0, ((b + iN : Nat) : Int), (q : Int)⟩]⟩) := by rw [← hq, ← hiN]; rfl
            have few := even_few (n := n) (b := b) (c := j) (ps := ps) (r0 := ⟨rg, ms⟩) d
            have HFEW : Aside0 ((evenP n b j ps ⟨rg, ms⟩ d).ms.length ≤ 20000) := ⟨by have := HFW.out; dsimp only at few; omega⟩
            have hrow : Kd.C (Kd.int .i64) wr A2 j ps := by
              have h := HS.out.ok (S1.Own (.slice A2 j c2) ps) (by simp)
              obtain ⟨A', c', e', _, h2⟩ := G9.own_C h
              injection e' with e1 e2 e3
              subst e1
              rw [HPL.out.len] at h2
              exact h2
            obtain ⟨ad, e, hx⟩ := Kd.at_int hrow (iN : Int) (by omega) (by omega)
            cases e
            rw [Int.toNat_natCast, show rd ps (iN : Int) = ps.getD iN 0 from rfl, hq] at hx
            have hi4 : (iN : Int) ≤ 4096 := by omega
            have hlti : (iN : Int) < (j : Int) := by omega
            have HI := Aside0.mk (And.intro ei (And.intro hd hlt))
            obtain ⟨i, hi⟩ : ∃ i, b + iN = i := ⟨_, rfl⟩
            have ebi : (b : Int) + (iN : Int) = (i : Int) := by omega
            rw [hi] at hst
            have hin : i < n := by omega
            by_cases hne : i = q
            · rw [if_pos (by omega)] at hst
              have HST := Aside0.mk hst
              have q8 : ((i : Int) == (q : Int)) = true := beq_iff_eq.2 (by omega)
              subst hne
              clear hst hrow inv hq hq1 hq2 few hiN ei hlt hd hi
              go_wp2
              go_roundg (j - d)
              case measure => have := HQ2.out; have := HI.out; omega
              case rel => exact ⟨d + 1, by congr 1; have := HI.out; omega, by have := HI.out; omega, ⟨by have := HI.out; omega⟩, ⟨by rw [HST.out]; exact HS.out⟩⟩
            · rw [if_neg (by omega)] at hst
              have HST := Aside0.mk hst
              have q8 : ((i : Int) == (q : Int)) = false := beq_eq_false_iff_ne.2 (by omega)
              obtain ⟨A7, c7, e7⟩ := ownM_shape (HS.out.get 1 rfl)
              obtain ⟨n7, hn7⟩ : ∃ n7, (evenP n b j ps ⟨rg, ms⟩ d).ms.length = n7 := ⟨_, rfl⟩
              rw [hn7] at e7
              subst e7
              clear hst hrow inv hq hq1 hq2 few hiN ei hlt hd hi hne hn7
              generalize evenP n b j ps ⟨rg, ms⟩ d = r0 at *
              have C1 := Aside0.mk (one_any (HS.out.get 0 rfl) (i := i) (j := q) hin)
              generalize r0.g.xs.getD i 0 = x at *
              go_wp2_with fail
              refine C1.out.mono ?_
              clear C1
              rintro e w5 ⟨rfl, h4, h5⟩
              replace HS := Aside0.mk (ref_turn HS.out 0 rfl h5 h4)
              clear h4 h5 hx
              go_wp2_with ((with_reducible refine gate_builtin (b := .append) (xs := #[.tmp 58, .tmp 69]) rfl ?_); at_builtin; refine sep_appendM rfl (.tmp 58) (.tmp 69) rfl HS.out 1 rfl ⟨x, (i : Int), (q : Int)⟩ rfl rfl (by have := HFEW.out; omega) ?_; intro v1 w6 hs2; have HS2 := Aside0.mk hs2; clear hs2)
              go_roundg (j - d)
              case measure => have := HQ2.out; have := HI.out; omega
              case rel => exact ⟨d + 1, by congr 1; have := HI.out; omega, by have := HI.out; omega, ⟨by have := HI.out; omega⟩, ⟨by rw [HST.out]; exact HS2.out⟩⟩
          · obtain rfl : d = j := by omega
            rw [show (d : Int) - 1 - (d : Int) = -1 by omega]
            obtain ⟨A7, c7, e7⟩ := ownM_shape (HS.out.get 1 rfl)
            subst e7
            go_wp2
            go_ret
            refine ⟨_, rfl, ?_⟩
            rw [HER.out]
            exact HS.out.sub (List.Sublist.cons_cons _ (List.Sublist.cons_cons _ (List.sublist_append_left _ _)))
      · have e3 : ¬ (b : Int) + (j : Int) < (b : Int) + (N : Int) := by omega
        have d3 : decide ((b : Int) + (j : Int) < (b : Int) + (N : Int)) = false := decide_eq_false e3
        clear href hlt hlt2
        go_wp2_with fail
        clear e3 d3 c0
        refine (CS.out _).mono ?_
        clear CS
        rintro e w2 ⟨v2, rfl, hs2⟩
        obtain ⟨A2, c2, rfl, _, _⟩ := G9.own_C (hs2.own 0 rfl)
        rw [HPL.out.len] at hs2 ⊢
        have HS3 : Aside0 (Sep w0 w2 (RefO r lb n rg :: OwnM (.slice A1 n1 c1) ms :: (L ++ [S1.Own (.slice A2 j c2) (plK j k f k)]))) := ⟨HS.out.append hs2⟩
        clear HS hs2
        generalize plK j k f k = ps at *
        go_wp2
        go_loopg [7, 10] (j + 1) (fun kq v7 v10 W => ∃ d : Nat, v10 = .int .i64 ((j : Int) - 1 - (d : Int)) ∧ d ≤ j ∧ Aside0 (j + 1 - d ≤ kq) ∧ Aside0 (Sep w0 W (RefO r lb n (evenP n b j ps ⟨rg, ms⟩ d).g :: OwnM v7 (evenP n b j ps ⟨rg, ms⟩ d).ms :: (L ++ [S1.Own (.slice A2 j c2) ps]))))
        case atStart => exact ⟨0, by go_num, by omega, ⟨by omega⟩, HS3⟩
        case round =>
          clear HS3
          obtain ⟨d, rfl, hd, HQ2, HS⟩ := hrel
          by_cases hlt : d < j
          · obtain ⟨iN, hiN⟩ : ∃ iN, j - 1 - d = iN := ⟨_, rfl⟩
            have ei : (j : Int) - 1 - (d : Int) = (iN : Int) := by omega
            rw [ei]
            have inv := even_inv (r0 := ⟨rg, ms⟩) HPL.out HEV.out d hd
            obtain ⟨q, hq, hq1, hq2⟩ := HPL.out.nat (show iN < j by omega)
            have hst : evenP n b j ps ⟨rg, ms⟩ (d + 1) = (if ((b + iN : Nat) : Int) = (q : Int) then evenP n b j ps ⟨rg, ms⟩ d else ⟨moveS n (evenP n b j ps ⟨rg, ms⟩ d).g ((b + iN : Nat) : Int) (q : Int), (evenP n b j ps ⟨rg, ms⟩ d).ms ++ [⟨(evenP n b j ps ⟨rg, ms⟩ d).g.xs.getD (b + iN) 0, ((b + iN : Nat) : Int), (q : Int)⟩]⟩) := by rw [← hq, ← hiN]; rfl
            have few := even_few (n := n) (b := b) (c := j) (ps := ps) (r0 := ⟨rg, ms⟩) d
            have HFEW : Aside0 ((evenP n b j ps ⟨rg, ms⟩ d).ms.length ≤ 20000) := ⟨by have := HFW.out; dsimp only at few; omega⟩
            have hrow : Kd.C (Kd.int .i64) wr A2 j ps := by
              have h := HS.out.ok (S1.Own (.slice A2 j c2) ps) (by simp)
              obtain ⟨A', c', e', _, h2⟩ := G9.own_C h
              injection e' with e1 e2 e3
              subst e1
              rw [HPL.out.len] at h2
              exact h2
            obtain ⟨ad, e, hx⟩ := Kd.at_int hrow (iN : Int) (by omega) (by omega)
            cases e
            rw [Int.toNat_natCast, show rd ps (iN : Int) = ps.getD iN 0 from rfl, hq] at hx
            have hi4 : (iN : Int) ≤ 4096 := by omega
            have hlti : (iN : Int) < (j : Int) := by omega
            have HI := Aside0.mk (And.intro ei (And.intro hd hlt))
            obtain ⟨i, hi⟩ : ∃ i, b + iN = i := ⟨_, rfl⟩
            have ebi : (b : Int) + (iN : Int) = (i : Int) := by omega
            rw [hi] at hst
            have hin : i < n := by omega
            by_cases hne : i = q
            · rw [if_pos (by omega)] at hst
              have HST := Aside0.mk hst
              have q8 : ((i : Int) == (q : Int)) = true := beq_iff_eq.2 (by omega)
              subst hne
              clear hst hrow inv hq hq1 hq2 few hiN ei hlt hd hi
              go_wp2
              go_roundg (j - d)
              case measure => have := HQ2.out; have := HI.out; omega
              case rel => exact ⟨d + 1, by congr 1; have := HI.out; omega, by have := HI.out; omega, ⟨by have := HI.out; omega⟩, ⟨by rw [HST.out]; exact HS.out⟩⟩
            · rw [if_neg (by omega)] at hst
              have HST := Aside0.mk hst
              have q8 : ((i : Int) == (q : Int)) = false := beq_eq_false_iff_ne.2 (by omega)
              obtain ⟨A7, c7, e7⟩ := ownM_shape (HS.out.get 1 rfl)
              obtain ⟨n7, hn7⟩ : ∃ n7, (evenP n b j ps ⟨rg, ms⟩ d).ms.length = n7 := ⟨_, rfl⟩
              rw [hn7] at e7
              subst e7
              clear hst hrow inv hq hq1 hq2 few hiN ei hlt hd hi hne hn7
              generalize evenP n b j ps ⟨rg, ms⟩ d = r0 at *
              have C1 := Aside0.mk (one_any (HS.out.get 0 rfl) (i := i) (j := q) hin)
              generalize r0.g.xs.getD i 0 = x at *
              go_wp2_with fail
              refine C1.out.mono ?_
              clear C1
              rintro e w5 ⟨rfl, h4, h5⟩
              replace HS := Aside0.mk (ref_turn HS.out 0 rfl h5 h4)
              clear h4 h5 hx
              go_wp2_with ((with_reducible refine gate_builtin (b := .append) (xs := #[.tmp 58, .tmp 69]) rfl ?_); at_builtin; refine sep_appendM rfl (.tmp 58) (.tmp 69) rfl HS.out 1 rfl ⟨x, (i : Int), (q : Int)⟩ rfl rfl (by have := HFEW.out; omega) ?_; intro v1 w6 hs2; have HS2 := Aside0.mk hs2; clear hs2)
              go_roundg (j - d)
              case measure => have := HQ2.out; have := HI.out; omega
              case rel => exact ⟨d + 1, by congr 1; have := HI.out; omega, by have := HI.out; omega, ⟨by have := HI.out; omega⟩, ⟨by rw [HST.out]; exact HS2.out⟩⟩
          · obtain rfl : d = j := by omega
            rw [show (d : Int) - 1 - (d : Int) = -1 by omega]
            obtain ⟨A7, c7, e7⟩ := ownM_shape (HS.out.get 1 rfl)
            subst e7
            go_wp2
            go_ret
            refine ⟨_, rfl, ?_⟩
            rw [HER.out]
            exact HS.out.sub (List.Sublist.cons_cons _ (List.Sublist.cons_cons _ (List.sublist_append_left _ _)))
end
end Go.Proofs.YtofkkdjbilklcaaDoor.ZN
